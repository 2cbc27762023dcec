import Derived.Test.YtfdegdfijjfgbaaK
import Derived.Deep.CutRange
import Derived.Test.YtfdegdfijjfgbaaRows
import Derived.WalkKit
import Derived.WalkSpells
import Derived.WalkLawsBesides
import Derived.Laws.EntriesVeiled
import Derived.ProofKit
import Derived.OpenShut
import Derived.Lib.Hide
import Derived.BigQuiet
import Derived.Deep.QuietTactic
import Derived.Below
import Derived.Laws.OwnMore
import Derived.Deep.AppendLies
import Derived.Deep.Draws
import Derived.Laws.Rows
import Derived.Maps.AppendAt
import Derived.RegionTactic
import Derived.OwnWalk
import Derived.Deep.RegionHeld3
namespace Go.Proofs.Ytfdegdfijjfgbaa
open Go.ChangeShapes Go.WideShapes Go.ChangeAt Go.RowKit
set_option linter.unusedSimpArgs false
set_option linter.unusedVariables false
theorem info32a : (Try.prog.info? 32).map (fun i => (i.size, i.bytes, i.zero)) = some (3, 24, some (.agg #[.int .i64 0, .int .i64 0, .int .i64 0])) := by kernel_rfl
theorem info32 : ∃ i, Try.prog.info? 32 = some i ∧ i.zero = some (.agg #[.int .i64 0, .int .i64 0, .int .i64 0]) ∧ i.size = 3 ∧ i.bytes = 24 := by
  have h := info32a
  cases hi : Try.prog.info? 32 with
  | none => rw [hi] at h; cases h
  | some i => rw [hi] at h; simp at h; exact ⟨i, rfl, h.2.2, h.1, h.2.1⟩
/-- A list of bounds of the call's own. -/
def OwnB (w0 w : World) (v : Value) (l : List Bd) : Prop := w.ownsRow w0.heap.size 32 3 v l.length (bdCells l) ∧ Keeps w0 w
theorem OwnB.nil (w : World) : OwnB w w (.slice none 0 0) [] := ⟨World.ownsRow_nil _ _ _ _, Keeps.refl w⟩
theorem OwnB.lit {w0 w : World} (h : Keeps w0 w) : OwnB w0 (w.alloc (.cells #[] 32)) (.slice (some ⟨w.heap.size, 0, none⟩) 0 0) [] :=
  ⟨⟨rfl, .inr ⟨w.heap.size, 0, #[], rfl, h.size, heap_alloc_new w _, Nat.le_refl _, Nat.zero_le _, rfl, rfl⟩⟩, h.alloc _⟩
theorem OwnB.keep {w0 w w' : World} {v : Value} {l : List Bd} (h : OwnB w0 w v l) (hk : Keeps w w') : OwnB w0 w' v l := ⟨own_keeps h.1 hk, h.2.trans hk⟩
theorem OwnB.bnds {w0 w : World} {A : Option Addr} {n c : Nat} {l : List Bd} (h : OwnB w0 w (.slice A n c) l) : Bnds w w.heap.size A l ∧ n = l.length := by
  have hn : n = l.length := by
    rcases h.1.2 with ⟨e, h0⟩ | ⟨g, cap, cur, e, _⟩
    · injection e with e1 e2 e3; omega
    · injection e
  subst hn
  exact ⟨Bnds.of_own h.1 rfl, rfl⟩
theorem bd_one (l : List Bd) : ∀ u ∈ bdCells l, u.oneCell' = true := by
  intro u hu
  simp only [bdCells, List.mem_flatMap] at hu
  obtain ⟨o, _, hu⟩ := hu
  simp at hu
  rcases hu with rfl | rfl | rfl <;> rfl
theorem bnds_one (w : World) (f t m : Int) : Bnds (w.alloc (.cells #[.int .i64 f, .int .i64 t, .int .i64 m] 32)) (w.alloc (.cells #[.int .i64 f, .int .i64 t, .int .i64 m] 32)).heap.size (some ⟨w.heap.size, 0, none⟩) [⟨f, t, m⟩] := bnds_lit w [⟨f, t, m⟩] _ rfl
theorem wpList_app {w0 w : World} {ops : Array Oper} {rest : List Oper} {o : Oper} {a : Act} {Q : Exit → Act → World → Prop} (hgd : o.guard = none) (s x : Operand)
    (ho : o.op = .call { callee := .builtin .append, args := #[s, x], argTypes := #[22, 22] })
    (v : Value) (l : List Bd) (hs : a.eval s = v) (hown : OwnB w0 w v l)
    (A : Option Addr) (m c : Nat) (l2 : List Bd) (hx : a.eval x = .slice A m c) (hr : Bnds w w.heap.size A l2) (hm : Hid (m = l2.length)) (hle : Hid (l.length + l2.length ≤ 1000000))
    (h : ∀ A' n' c' w', OwnB w0 w' (.slice A' n' c') (l ++ l2) → wpList Try.prog ops Q rest (a.put o.dst (.slice A' n' c')) w') : wpList Try.prog ops Q (o :: rest) a w := by
  obtain ⟨i0, hi0, hz0, hz1, hz2⟩ := info32
  have hle' := hle.out
  have hm' := hm.out
  subst hm'
  refine wpList_append_any w hgd s x 22 ho w0.heap.size 32 i0 _ 3 24 Try.underlying22 hi0 hz0 hz1 hz2 rfl (by decide) v l.length (bdCells l) hs hown.1 w.heap.size A l2.length c (bdCells l2) hx hr.reads (bd_one l2) (by unfold maxLen; omega) (by omega) hown.2.size ?_
  intro v' w' h1 h2 _
  obtain ⟨A', c', rfl⟩ := own_slice h1
  refine h A' _ c' w' ⟨?_, grown_keeps hown.2 h2 (fun k hk => (own_lt hown.1 hk).1)⟩
  rw [← List.length_append, ← bdCells_append] at h1
  rw [← List.length_append]
  exact h1
theorem valid_app {n : Int} {l m : List Bd} (h : validB n l = true) (h2 : ∀ b ∈ m, okBd n b = true) : validB n (l ++ m) = true := by
  simp only [validB, Bool.and_eq_true, List.all_append] at h ⊢
  exact ⟨h.1, h.2, by rw [List.all_eq_true]; exact h2⟩
theorem valid_len {n : Int} {l m : List Bd} (h : validB n (l ++ m) = true) : validB n l = true ∧ ∀ b ∈ m, okBd n b = true := by
  simp only [validB, Bool.and_eq_true, List.all_append] at h ⊢
  exact ⟨⟨h.1, h.2.1⟩, by rw [← List.all_eq_true]; exact h.2.2⟩
theorem square_is (n : Nat) (d : Nat → Nat → Int) (A : Option Addr) (m c : Nat) (w : World) (hl : NumRows w w.heap.size A (matF n d)) (hn : n ≤ 1000) (hm : m = n) : Calls Try.prog 13 #[.slice A m c, .int .i64 (n : Int)] w (BoolPost true w) := by
  subst hm
  exact square_yes m (matF m d) A c w hl hn (by unfold Hid; exact (matF_len m d).symm) (by unfold Hid; exact fun l h => matF_mem h)
/-- The bound between two variables, met the other way round. -/
theorem exact_walk {l : List Bd} {n i k : Nat} {d : Nat → Nat → Int} (hd : Least (Edge l) n d) (hi : i < n) (b : Int) (hb : d i k = b) {x y : Nat} {c : Int} (hw : Wk (Edge (l ++ [⟨(k : Int), (i : Int), -b⟩])) x y c) :
    (∃ c', Wk (Edge l) x y c' ∧ c' ≤ c) ∨ ∃ c1 c2, Wk (Edge l) x k c1 ∧ Wk (Edge l) i y c2 ∧ c1 - b + c2 ≤ c := by
  induction hw with
  | nil => exact .inl ⟨0, Wk.nil _, Int.le_refl _⟩
  | snoc _ e ih =>
    rename_i p q c0 e0 _
    obtain ⟨bd, hm, h1, h2, h3⟩ := e
    rw [List.mem_append] at hm
    rcases hm with hm | hm
    · have he : Edge l p q e0 := ⟨bd, hm, h1, h2, h3⟩
      rcases ih with ⟨c', h4, h5⟩ | ⟨c1, c2, h4, h5, h6⟩
      · exact .inl ⟨c' + e0, Wk.snoc h4 he, by omega⟩
      · exact .inr ⟨c1, c2 + e0, h4, Wk.snoc h5 he, by omega⟩
    · simp at hm
      subst hm
      simp only at h1 h2 h3
      have e1 : k = p := by omega
      have e2 : i = q := by omega
      subst e1 e2
      rcases ih with ⟨c', h4, h5⟩ | ⟨c1, c2, h4, h5, h6⟩
      · exact .inr ⟨c', 0, h4, Wk.nil _, by omega⟩
      · have := (hd.full _ _ _ hi h5).2.2
        exact .inr ⟨c1, 0, h4, Wk.nil _, by omega⟩
theorem exact_ok {l : List Bd} {n i k : Nat} {d : Nat → Nat → Int} (hd : Least (Edge l) n d) (hn : NoNeg (Edge l)) (hi : i < n) (b : Int) (hb : d i k = b) : NoNeg (Edge (l ++ [⟨(k : Int), (i : Int), -b⟩])) := by
  intro x c hw
  rcases exact_walk hd hi b hb hw with ⟨c', h1, h2⟩ | ⟨c1, c2, h1, h2, h3⟩
  · have := hn _ _ h1; omega
  · have := (hd.full _ _ _ hi (h2.trans h1)).2.2; omega
theorem exact_no {l : List Bd} {n i k : Nat} {d : Nat → Nat → Int} (hd : Least (Edge l) n d) (b : Int) (hb : d i k = b) (hb2 : b ≠ NoB) : ¬ NoNeg (Edge (l ++ [⟨(k : Int), (i : Int), -b - 1⟩])) := by
  intro hn
  have h1 := hd.sound i k (by rw [hb]; exact hb2)
  rw [hb] at h1
  have h2 : Wk (Edge (l ++ [⟨(k : Int), (i : Int), -b - 1⟩])) i k b := h1.mono fun x y c ⟨bd, hm, h⟩ => ⟨bd, List.mem_append.2 (.inl hm), h⟩
  have h3 := Wk.snoc h2 (j := i) (d := -b - 1) ⟨⟨(k : Int), (i : Int), -b - 1⟩, by simp, rfl, rfl, rfl⟩
  have := hn _ _ h3; omega
theorem close_yes {N : Nat} {l : List Bd} {d : Nat → Nat → Int} {ls : List (List Int)} (h : Hid (CloseIs (N : Int) l 0 d)) (hls : Hid (matF N d = ls)) (A : Option Addr) (m c : Nat) (w : World) (hl : Bnds w w.heap.size A l) (hm : Hid (m = l.length)) : Calls Try.prog 12 #[.int .i64 (N : Int), .slice A m c] w (RowsPost ls 0 w) := by
  have := h.out A m c w hl hm
  rw [if_pos rfl, Int.toNat_natCast, hls.out] at this
  exact this
theorem close_no {n : Int} {l : List Bd} {d : Nat → Nat → Int} (h : Hid (CloseIs n l 240 d)) (A : Option Addr) (m c : Nat) (w : World) (hl : Bnds w w.heap.size A l) (hm : Hid (m = l.length)) : Calls Try.prog 12 #[.int .i64 n, .slice A m c] w (RowsPost [] 240 w) := h.out A m c w hl hm
end Go.Proofs.Ytfdegdfijjfgbaa
