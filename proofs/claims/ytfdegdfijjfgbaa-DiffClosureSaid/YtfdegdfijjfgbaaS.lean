import Derived.Test.YtfdegdfijjfgbaaP
import Derived.Test.YtfdegdfijjfgbaaR
import Derived.Test.YtfdegdfijjfgbaaJ
import Derived.Test.YtfdegdfijjfgbaaK
import Derived.Deep.CutRange
import Derived.Test.YtfdegdfijjfgbaaRows
import Derived.WalkKit
import Derived.WalkSpells
import Derived.WalkLawsBesides
import Derived.Laws.EntriesVeiled
import Derived.ProofKit
import Derived.OpenShut
import Derived.Lib.Hide
import Derived.BigQuiet
import Derived.Deep.QuietTactic
import Derived.Below
import Derived.Laws.OwnMore
import Derived.Deep.AppendLies
import Derived.Deep.Draws
import Derived.Laws.Rows
import Derived.Maps.AppendAt
import Derived.RegionTactic
import Derived.OwnWalk
import Derived.Deep.RegionHeld3
namespace Go.Proofs.Ytfdegdfijjfgbaa
open Go.ChangeShapes Go.WideShapes Go.ChangeAt Go.RowKit
set_option linter.unusedSimpArgs false
set_option linter.unusedVariables false
/-- The entries of a row that stand, as bounds. -/
def rowG (d : Nat → Nat → Int) (a k : Nat) : List Bd := (List.range k).flatMap fun b => if d a b < NoB then [⟨(a : Int), (b : Int), d a b⟩] else []
def againF (n : Nat) (d : Nat → Nat → Int) (i k : Nat) : List Bd := ((List.range i).flatMap fun a => rowG d a n) ++ rowG d i k
theorem rowG_next (d : Nat → Nat → Int) (a k : Nat) : rowG d a (k + 1) = rowG d a k ++ (if d a k < NoB then [⟨(a : Int), (k : Int), d a k⟩] else []) := by
  unfold rowG; rw [List.range_succ, List.flatMap_append]; simp
theorem again_next (n : Nat) (d : Nat → Nat → Int) (i k : Nat) : againF n d i (k + 1) = againF n d i k ++ (if d i k < NoB then [⟨(i : Int), (k : Int), d i k⟩] else []) := by
  unfold againF; rw [rowG_next, List.append_assoc]
theorem again_row (n : Nat) (d : Nat → Nat → Int) (i : Nat) : againF n d i n = againF n d (i + 1) 0 := by
  unfold againF; rw [List.range_succ, List.flatMap_append]; simp [rowG]
theorem rowG_len (d : Nat → Nat → Int) (a : Nat) : ∀ k, (rowG d a k).length ≤ k
  | 0 => by simp [rowG]
  | k + 1 => by
    rw [rowG_next, List.length_append]
    have := rowG_len d a k
    split <;> simp <;> omega
theorem rows_len (n : Nat) (d : Nat → Nat → Int) : ∀ i, ((List.range i).flatMap fun a => rowG d a n).length ≤ i * n
  | 0 => by simp
  | i + 1 => by
    rw [List.range_succ, List.flatMap_append, List.length_append]
    have := rows_len n d i
    have h := rowG_len d i n
    have e : (i + 1) * n = i * n + n := by rw [Nat.add_mul, Nat.one_mul]
    simp only [List.flatMap_cons, List.flatMap_nil, List.append_nil]
    omega
theorem again_len {n : Nat} (d : Nat → Nat → Int) {i k : Nat} (hn : n ≤ 12) (hi : i ≤ n) (hk : k ≤ n) : (againF n d i k).length ≤ 200 := by
  unfold againF
  rw [List.length_append]
  have h1 := rows_len n d i
  have h2 := rowG_len d i k
  have h3 : i * n ≤ 12 * 12 := Nat.mul_le_mul (by omega) hn
  omega
theorem rowG_mem {d : Nat → Nat → Int} {a k : Nat} {x : Bd} : x ∈ rowG d a k ↔ ∃ b, b < k ∧ d a b < NoB ∧ x = ⟨(a : Int), (b : Int), d a b⟩ := by
  unfold rowG
  simp only [List.mem_flatMap, List.mem_range]
  constructor
  · rintro ⟨b, hb, hx⟩
    split at hx
    · rename_i h; simp at hx; exact ⟨b, hb, h, hx⟩
    · simp at hx
  · rintro ⟨b, hb, h, rfl⟩
    exact ⟨b, hb, by rw [if_pos h]; simp⟩
theorem again_mem {n : Nat} {d : Nat → Nat → Int} {x : Bd} : x ∈ againF n d n 0 ↔ ∃ a b, a < n ∧ b < n ∧ d a b < NoB ∧ x = ⟨(a : Int), (b : Int), d a b⟩ := by
  unfold againF
  rw [List.mem_append, List.mem_flatMap]
  constructor
  · rintro (⟨a, ha, hx⟩ | hx)
    · obtain ⟨b, hb, h, e⟩ := rowG_mem.1 hx
      exact ⟨a, b, by simpa using ha, hb, h, e⟩
    · simp [rowG] at hx
  · rintro ⟨a, b, ha, hb, h, e⟩
    exact .inl ⟨a, by simpa using ha, rowG_mem.2 ⟨b, hb, h, e⟩⟩
theorem wk_dom {E F : Nat → Nat → Int → Prop} (h : ∀ i j c, E i j c → ∃ c', Wk F i j c' ∧ c' ≤ c) {i j : Nat} {c : Int} (hw : Wk E i j c) : ∃ c', Wk F i j c' ∧ c' ≤ c := by
  induction hw with
  | nil => exact ⟨0, Wk.nil _, Int.le_refl _⟩
  | snoc _ e ih =>
    obtain ⟨c1, h1, h2⟩ := ih
    obtain ⟨c2, h3, h4⟩ := h _ _ _ e
    exact ⟨c1 + c2, h1.trans h3, by omega⟩
theorem again_edge {n : Nat} {d : Nat → Nat → Int} {i j : Nat} {c : Int} : Edge (againF n d n 0) i j c ↔ i < n ∧ j < n ∧ d i j < NoB ∧ d i j = c := by
  constructor
  · rintro ⟨b, hb, h1, h2, h3⟩
    obtain ⟨x, y, hx, hy, h, rfl⟩ := again_mem.1 hb
    simp only at h1 h2 h3
    have e1 : x = i := by omega
    have e2 : y = j := by omega
    subst e1 e2
    exact ⟨hx, hy, h, h3⟩
  · rintro ⟨hi, hj, h, rfl⟩
    exact ⟨⟨(i : Int), (j : Int), d i j⟩, again_mem.2 ⟨i, j, hi, hj, h, rfl⟩, rfl, rfl, rfl⟩
/-- The least bounds, as bounds, have themselves as least bounds. -/
theorem again_same {N : Nat} {l : List Bd} {d : Nat → Nat → Int} (hv : validB (N : Int) l = true) (hd : Least (Edge l) N d) (hno : NoNeg (Edge l)) (hle : ∀ i j, d i j ≤ NoB) :
    NoNeg (Edge (againF N d N 0)) ∧ ∀ d', Least (Edge (againF N d N 0)) N d' → ∀ i j, i < N → j < N → d' i j = d i j := by
  have h1 : ∀ i j c, Edge (againF N d N 0) i j c → ∃ c', Wk (Edge l) i j c' ∧ c' ≤ c := fun i j c he => by
    obtain ⟨_, _, h, e⟩ := again_edge.1 he
    exact ⟨d i j, hd.sound i j (by omega), by omega⟩
  have h2 : ∀ i j c, Edge l i j c → ∃ c', Wk (Edge (againF N d N 0)) i j c' ∧ c' ≤ c := fun i j c he => by
    have hi : i < N := by
      obtain ⟨b, hb, h, _, _⟩ := he
      have := valid_mem hv hb; omega
    obtain ⟨hj, h3, h4⟩ := hd.full i j c hi (Wk.one he)
    have := hle i j
    exact ⟨d i j, Wk.one (again_edge.2 ⟨hi, hj, by omega, rfl⟩), h4⟩
  refine ⟨fun i c hw => ?_, fun d' hd' => hd'.eq hd (fun _ _ _ hw => wk_dom h1 hw) (fun _ _ _ hw => wk_dom h2 hw)⟩
  obtain ⟨c', h3, h4⟩ := wk_dom h1 hw
  have := hno _ _ h3; omega
theorem close_le_none {N : Nat} {l : List Bd} (hv : validB (N : Int) l = true) (hN : N ≤ 12) (i j : Nat) : closeM N l i j ≤ NoB ∧ -100000000000 ≤ closeM N l i j ∧ (closeM N l i j ≠ NoB → closeM N l i j ≤ 100000000000) := by
  have hbnd : Bnd N (closeM N l) := (el_bnd (gof_of hv)).it N (by omega)
  have hp := two_pow_le (k := N) (by omega)
  have h := hbnd i j
  generalize closeM N l i j = x at *
  generalize (2 : Int) ^ N = p at *
  unfold NoB at *
  rcases h with h | h
  · subst h; omega
  · omega
end Go.Proofs.Ytfdegdfijjfgbaa
