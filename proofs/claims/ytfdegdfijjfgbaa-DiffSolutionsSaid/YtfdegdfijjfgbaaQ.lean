import Derived.Test.YtfdegdfijjfgbaaP
import Derived.Deep.CutRange
import Derived.Test.YtfdegdfijjfgbaaRows
import Derived.WalkKit
import Derived.WalkSpells
import Derived.WalkLawsBesides
import Derived.Laws.EntriesVeiled
import Derived.ProofKit
import Derived.OpenShut
import Derived.Lib.Hide
import Derived.BigQuiet
import Derived.Deep.QuietTactic
import Derived.Below
import Derived.Laws.OwnMore
import Derived.Deep.AppendLies
import Derived.Deep.Draws
import Derived.Laws.Rows
import Derived.Maps.AppendAt
import Derived.RegionTactic
import Derived.OwnWalk
import Derived.Deep.RegionHeld3
namespace Go.Proofs.Ytfdegdfijjfgbaa
open Go.ChangeShapes Go.WideShapes Go.ChangeAt Go.RowKit
set_option linter.unusedSimpArgs false
set_option linter.unusedVariables false
/-- A list of whole numbers of the call's own. -/
def OwnI (w0 w : World) (v : Value) (l : List Int) : Prop := w.ownsRow w0.heap.size 3 1 v l.length (intCells .i64 l) ∧ Keeps w0 w
theorem OwnI.nil (w : World) : OwnI w w (.slice none 0 0) [] := ⟨World.ownsRow_nil _ _ _ _, Keeps.refl w⟩
theorem OwnI.keep {w0 w w' : World} {v : Value} {l : List Int} (h : OwnI w0 w v l) (hk : Keeps w w') : OwnI w0 w' v l := ⟨own_keeps h.1 hk, h.2.trans hk⟩
theorem OwnI.nums {w0 w : World} {A : Option Addr} {n c : Nat} {l : List Int} (h : OwnI w0 w (.slice A n c) l) : Nums .i64 w w.heap.size A l ∧ n = l.length := by
  have hn : n = l.length := by
    rcases h.1.2 with ⟨e, h0⟩ | ⟨g, cap, cur, e, _⟩
    · injection e with e1 e2 e3; omega
    · injection e
  subst hn
  exact ⟨Nums.of_own h.1 rfl, rfl⟩
theorem nums_one (w : World) (x : Int) : Nums .i64 (w.alloc (.cells #[.int .i64 x] 3)) (w.alloc (.cells #[.int .i64 x] 3)).heap.size (some ⟨w.heap.size, 0, none⟩) [x] := nums_lit w [x] _ rfl
theorem wpList_appi {w0 w : World} {ops : Array Oper} {rest : List Oper} {o : Oper} {a : Act} {Q : Exit → Act → World → Prop} (hgd : o.guard = none) (s x : Operand)
    (ho : o.op = .call { callee := .builtin .append, args := #[s, x], argTypes := #[30, 30] })
    (v : Value) (l : List Int) (hs : a.eval s = v) (hown : OwnI w0 w v l)
    (A : Option Addr) (m c : Nat) (l2 : List Int) (hx : a.eval x = .slice A m c) (hr : Nums .i64 w w.heap.size A l2) (hm : Hid (m = l2.length)) (hle : Hid (l.length + l2.length ≤ 1000000))
    (h : ∀ A' n' c' w', OwnI w0 w' (.slice A' n' c') (l ++ l2) → wpList Try.prog ops Q rest (a.put o.dst (.slice A' n' c')) w') : wpList Try.prog ops Q (o :: rest) a w := by
  obtain ⟨i0, hi0, hz0, hz1, hz2⟩ := info3
  have hle' := hle.out
  have hm' := hm.out
  subst hm'
  refine wpList_append_any w hgd s x 30 ho w0.heap.size 3 i0 _ 1 8 Try.underlying30 hi0 hz0 hz1 hz2 rfl (by decide) v l.length (intCells .i64 l) hs hown.1 w.heap.size A l2.length c (intCells .i64 l2) hx hr.reads intCells_one (by unfold maxLen; omega) (by omega) hown.2.size ?_
  intro v' w' h1 h2 _
  obtain ⟨A', c', rfl⟩ := own_slice h1
  refine h A' _ c' w' ⟨?_, grown_keeps hown.2 h2 (fun k hk => (own_lt hown.1 hk).1)⟩
  rw [← List.length_append, ← intCells_append] at h1
  rw [← List.length_append]
  exact h1
/-- Values that satisfy the edges bound every way. -/
theorem pot_walk {E : Nat → Nat → Int → Prop} (u : Nat → Int) (h : ∀ i j c, E i j c → u j - u i ≤ c) {i j : Nat} {c : Int} (hw : Wk E i j c) : u j - u i ≤ c := by
  induction hw with
  | nil => omega
  | snoc _ e ih => have := h _ _ _ e; omega
theorem pot_noNeg {E : Nat → Nat → Int → Prop} (u : Nat → Int) (h : ∀ i j c, E i j c → u j - u i ≤ c) : NoNeg E := fun i c hw => by
  have := pot_walk u h hw; omega
theorem holds_edge {v : List Int} {l : List Bd} (h : holdsB v l = true) : ∀ i j c, Edge l i j c → at' v (j : Int) - at' v (i : Int) ≤ c := by
  rintro i j c ⟨b, hb, h1, h2, rfl⟩
  simp only [holdsB, Bool.and_eq_true, List.all_eq_true] at h
  have := h.2 b hb
  simp only [okVal, Bool.and_eq_true, decide_eq_true_eq] at this
  rw [← h1, ← h2]; exact this.2
theorem okBd_swap (n : Int) (b : Bd) : okBd n ⟨b.t, b.f, b.m⟩ = okBd n b := by simp only [okBd, Bool.and_comm (inR 0 (n - 1) b.t)]
def turnB (b : Bd) : Bd := ⟨b.t, b.f, b.m⟩
def turnL (l : List Bd) : List Bd := l.map turnB
def negL (v : List Int) : List Int := v.map fun x => -x
theorem valid_turn {n : Int} {l : List Bd} (h : validB n l = true) : validB n (turnL l) = true := by
  simp only [validB, Bool.and_eq_true, List.all_eq_true] at h ⊢
  refine ⟨h.1, fun b hb => ?_⟩
  simp only [turnL, List.mem_map] at hb
  obtain ⟨a, ha, rfl⟩ := hb
  unfold turnB; rw [okBd_swap]; exact h.2 a ha
theorem at_neg (v : List Int) (i : Int) : at' (negL v) i = - at' v i := by
  unfold at' negL
  simp only [List.getD_eq_getElem?_getD, List.getElem?_map]
  cases v[i.toNat]? <;> simp
theorem okVal_turn (v : List Int) (b : Bd) : okVal (negL v) (turnB b) = okVal v b := by
  simp only [okVal, turnB, at_neg]
  rw [show (negL v).length = v.length by simp [negL]]
  rw [Bool.and_comm (inR 0 ((v.length : Int) - 1) b.t)]
  congr 2
  exact propext ⟨fun h => by omega, fun h => by omega⟩
theorem holds_turn {v : List Int} {l : List Bd} (h : allIn (-1000000000) 1000000000 v = true) : holdsB (negL v) (turnL l) = holdsB v l := by
  have h2 : allIn (-1000000000) 1000000000 (negL v) = true := by
    simp only [allIn, List.all_eq_true] at h ⊢
    intro x hx
    simp only [negL, List.mem_map] at hx
    obtain ⟨y, hy, rfl⟩ := hx
    have := h y hy
    simp [inR] at this ⊢; omega
  unfold holdsB
  rw [h, h2, turnL, List.all_map]
  congr 2
  funext b
  exact okVal_turn v b
theorem turn_next {l : List Bd} {k : Nat} {b : Bd} (h : l[k]? = some b) : turnL (l.take (k + 1)) = turnL (l.take k) ++ [⟨b.t, b.f, b.m⟩] := by
  rw [List.take_add_one, h]; simp [turnL, turnB]
theorem neg_next {v : List Int} {k : Nat} {x : Int} (h : v[k]? = some x) : negL (v.take (k + 1)) = negL (v.take k) ++ [-x] := by
  rw [List.take_add_one, h]; simp [negL]
/-- Solve answers with values that are nowhere less than values that fit. -/
theorem solve_fits {N : Nat} {most : Int} {l : List Bd} {u : List Int} (hv : validB (N : Int) l = true) (hi : inR (-10000000) 10000000 most = true) (hN1 : 1 ≤ N) (hN : N ≤ 12)
    (hf : fitAll most u N = true) (hh : holdsB u l = true) (hb : ∀ i : Nat, at' u (i : Int) ≤ 1000000000) :
    leastB N (startF (l ++ extraL N most)) = true ∧ ∀ i, i < N → at' u (i : Int) ≤ solveM N most l 0 i ∧ -120000000000 ≤ solveM N most l 0 i ∧ solveM N most l 0 i ≤ 1099511627776 := by
  have hve := extra_valid hv hN1 hi
  have hfit : ∀ i, i < N → fitOk most i (at' u (i : Int)) = true := by
    simp only [fitAll, List.all_eq_true, List.mem_range] at hf; exact hf
  have h0 : at' u 0 = 0 := by have := hfit 0 (by omega); simpa [fitOk] using this
  have hedge : ∀ i j c, Edge (l ++ extraL N most) i j c → at' u (j : Int) - at' u (i : Int) ≤ c := by
    rintro i j c ⟨b, hbm, h1, h2, h3⟩
    rw [List.mem_append] at hbm
    rcases hbm with hbm | hbm
    · exact holds_edge hh i j c ⟨b, hbm, h1, h2, h3⟩
    · simp only [extraL, List.mem_map, List.mem_range] at hbm
      obtain ⟨k, hk, rfl⟩ := hbm
      (try dsimp only at h1 h2 h3)
      have e1 : i = 0 := by omega
      have e2 : j = k + 1 := by omega
      subst e1 e2
      have := hfit (k + 1) (by omega)
      have e0 : at' u ((0 : Nat) : Int) = 0 := h0
      simp only [fitOk, Nat.add_one_ne_zero, if_false, decide_eq_true_eq] at this
      rw [e0]; omega
  have hno := pot_noNeg (fun i => at' u (i : Int)) hedge
  have hl := (close_iff hve hN).2 hno
  have hL := close_least hve hN hl
  refine ⟨hl, fun i hi' => ?_⟩
  have hbnd : Bnd N (closeM N (l ++ extraL N most)) := (el_bnd (gof_of hve)).it N (by omega)
  have e0 : at' u ((0 : Nat) : Int) = 0 := h0
  have hbi := hb i
  have hp := two_pow_le (k := N) (by omega)
  have hs := hL.sound 0 i
  have hb2 := hbnd 0 i
  show at' u (i : Int) ≤ closeM N (l ++ extraL N most) 0 i ∧ _ ≤ closeM N (l ++ extraL N most) 0 i ∧ closeM N (l ++ extraL N most) 0 i ≤ _
  generalize closeM N (l ++ extraL N most) 0 i = x at *
  generalize (2 : Int) ^ N = p at *
  by_cases e : x = NoB
  · rw [e]; unfold NoB; omega
  · have h1 : at' u (i : Int) - at' u ((0 : Nat) : Int) ≤ x := pot_walk (fun i => at' u (i : Int)) hedge (hs e)
    rw [e0] at h1
    have h2 := hb2.resolve_left e
    omega
end Go.Proofs.Ytfdegdfijjfgbaa
