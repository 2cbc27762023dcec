import Derived.Test.YtkfcebojfnnieaaC
import Derived.Deep.Matrix
import Derived.Test.YtkfcebojfnnieaaRows
import Derived.WalkKit
import Derived.WalkSpells
import Derived.WalkLawsBesides
import Derived.Laws.EntriesVeiled
import Derived.ProofKit
import Derived.OpenShut
import Derived.Lib.Hide
import Derived.BigQuiet
import Derived.Deep.QuietTactic
import Derived.Below
import Derived.Laws.OwnMore
import Derived.Deep.AppendLies
import Derived.Deep.Draws
import Derived.Laws.Rows
import Derived.Maps.AppendAt
import Derived.RegionTactic
import Derived.OwnWalk
import Derived.Deep.RegionHeld3
namespace Go.Proofs.Ytkfcebojfnnieaa
open Go.ChangeShapes Go.WideShapes Go.ChangeAt Go.RowKit
set_option linter.unusedSimpArgs false
set_option linter.unusedVariables false
section
variable {H : Type} {enc : TypeId × Value → H} {W : World} {base : Nat} {spare : Nat → Bool} {held : Bool}
theorem add_none {a : Addr} (h : a.spot = none) (k : Nat) : a.add k = ⟨a.block, a.off + k, none⟩ := by
  obtain ⟨b, o, s⟩ := a
  simp only at h
  subst h
  unfold Addr.add; split <;> simp_all
theorem read_nums {ik : IntKind} {t e : TypeId} (ht : Try.prog.underlying t = some (.slice e)) (he : Try.prog.underlying e = some (.int ik)) (hc : Try.prog.cellsOf e = 1) {fuel : Nat} {cs : List Value} {x : DataW H × List MemPlace}
    (h : DataW.trod enc Try.prog W base spare held fuel t cs = some x) :
    ∃ (A : Option Addr) (c : Nat) (l : List Int), cs = [.slice A l.length c] ∧ Nums ik W W.heap.size A l ∧ l.length ≤ c ∧ c ≤ maxLen ∧ ∀ y ∈ l, (Lit.int ik y).wf = true := by
  rcases open_ints ht he hc h with ⟨hcs, _⟩ | ⟨a, len, cap, zs, hcs, _, hl, hm, hz, _, hcell, hwf⟩
  · exact ⟨none, 0, [], hcs, Nums.nil _, Nat.le_refl _, Nat.zero_le _, by simp⟩
  · have hle : len ≤ zs.length := by rw [hz]; split <;> omega
    have hlen : (zs.take len).length = len := by simp; omega
    refine ⟨some a, cap, zs.take len, by rw [hlen]; exact hcs, fun k y hk => ?_, by rw [hlen]; exact hl, hm, fun y hy => hwf y (List.mem_of_mem_take hy)⟩
    have hkl : k < len := by have := (List.getElem?_eq_some_iff.1 hk).1; omega
    have hc1 := hcell k (by omega)
    have hy : zs.getD k 0 = y := by
      rw [List.getElem?_take_of_lt hkl] at hk
      simp [List.getD_eq_getElem?_getD, hk]
    rw [hy] at hc1
    have hs : a.spot = none := by
      have h0 := hcell 0 (by omega)
      have := World.cell?_spot h0
      simpa [Addr.add] using this
    rw [add_none hs] at hc1
    obtain ⟨b, o, s⟩ := a
    simp only at hs hc1
    subst hs
    exact ⟨b, o, rfl, World.block_lt_of_cell? W _ hc1, hc1⟩
theorem cells3 : Try.prog.cellsOf 3 = 1 := by kernel_rfl
theorem cells42 : Try.prog.cellsOf 42 = 1 := by kernel_rfl
theorem cells22 : Try.prog.cellsOf 22 = 1 := by kernel_rfl
/-- What the reading of a '[]int' tells the walk. -/
theorem read_ints {v : Value} {d : DataW H} {p : List MemPlace} {r : Reach} {b0 : Nat} (hv : Value.okWide Try.prog W r b0 22 v) (h : DataW.Trod enc Try.prog W 0 spare held 22 v d p) :
    ∃ (A : Option Addr) (c : Nat) (l : List Int), v = .slice A l.length c ∧ Nums .i64 W W.heap.size A l ∧ l.length ≤ c ∧ c ≤ maxLen := by
  obtain ⟨A, n, c, rfl⟩ := okWide_slice Try.underlying22 hv
  obtain ⟨fuel, hf⟩ := h
  obtain ⟨A', c', l, hcs, h1, h2, h3, _⟩ := read_nums Try.underlying22 Try.underlying3 cells3 hf
  simp [Value.cells] at hcs
  obtain ⟨rfl, rfl, rfl⟩ := hcs
  exact ⟨A, c, l, rfl, h1, h2, h3⟩
/-- Numbers of the kind u16 in memory, with their bounds. -/
def U16s (w : World) (B : Nat) (A : Option Addr) (l : List Int) : Prop := Nums .u16 w B A l ∧ ∀ x ∈ l, 0 ≤ x ∧ x ≤ 65535
theorem read_u16s {v : Value} {d : DataW H} {p : List MemPlace} {r : Reach} {b0 : Nat} (hv : Value.okWide Try.prog W r b0 37 v) (h : DataW.Trod enc Try.prog W 0 spare held 37 v d p) :
    ∃ (A : Option Addr) (c : Nat) (l : List Int), v = .slice A l.length c ∧ U16s W W.heap.size A l ∧ l.length ≤ c ∧ c ≤ maxLen := by
  obtain ⟨A, n, c, rfl⟩ := okWide_slice Try.underlying37 hv
  obtain ⟨fuel, hf⟩ := h
  obtain ⟨A', c', l, hcs, h1, h2, h3, h4⟩ := read_nums Try.underlying37 Try.underlying42 cells42 hf
  simp [Value.cells] at hcs
  obtain ⟨rfl, rfl, rfl⟩ := hcs
  exact ⟨A, c, l, rfl, ⟨h1, fun x hx => bounds_u16 (h4 x hx)⟩, h2, h3⟩
theorem read_rows {v : Value} {d : DataW H} {p : List MemPlace} {r : Reach} {b0 : Nat} (hv : Value.okWide Try.prog W r b0 23 v) (h : DataW.Trod enc Try.prog W 0 (fun _ => true) held 23 v d p) :
    ∃ (A : Option Addr) (c : Nat) (l : List (List Int)), v = .slice A l.length c ∧ NumRows W W.heap.size A l ∧ l.length ≤ c ∧ c ≤ maxLen := by
  obtain ⟨A, n, c, rfl⟩ := okWide_slice Try.underlying23 hv
  obtain ⟨fuel, hf⟩ := h
  rcases Deep.open_int_rows Try.underlying23 Try.underlying22 Try.underlying3 cells22 cells3 hf with ⟨hcs, _⟩ | ⟨a, len, cap, A', L, C, Z, hcs, _, hl, hm, _, hrow⟩
  · simp [Value.cells] at hcs
    obtain ⟨rfl, rfl, rfl⟩ := hcs
    exact ⟨none, 0, [], rfl, fun k l hk => by simp at hk, Nat.le_refl _, Nat.zero_le _⟩
  · simp [Value.cells] at hcs
    obtain ⟨rfl, rfl, rfl⟩ := hcs
    refine ⟨some a, c, (List.range n).map fun k => (Z k).take (L k), by simp, fun k l hk => ?_, by simpa using hl, hm⟩
    have hkn : k < n := by have := (List.getElem?_eq_some_iff.1 hk).1; simpa using this
    have hle : l = (Z k).take (L k) := by simpa [hkn] using hk.symm
    subst hle
    obtain ⟨h1, h2, _, h4, _, h6, h7⟩ := hrow k (by omega)
    have hlen : ((Z k).take (L k)).length = L k := by simp; omega
    have hs : a.spot = none := by
      have := World.cell?_spot (hrow 0 (by omega)).1
      simpa [Addr.add] using this
    rw [add_none hs] at h1
    obtain ⟨b, o, s⟩ := a
    simp only at hs h1
    subst hs
    refine ⟨b, o, A' k, C k, rfl, World.block_lt_of_cell? W _ h1, by rw [hlen]; exact h1, fun j y hj => ?_⟩
    have hjl : j < L k := by have := (List.getElem?_eq_some_iff.1 hj).1; omega
    cases hA : A' k with
    | none => have := h6 hA; omega
    | some a' =>
      obtain ⟨_, hcell⟩ := h7 a' hA
      have hc1 := hcell j (by omega)
      have hy : (Z k).getD j 0 = y := by
        rw [List.getElem?_take_of_lt hjl] at hj
        simp [List.getD_eq_getElem?_getD, hj]
      rw [hy] at hc1
      have hs' : a'.spot = none := by
        have := World.cell?_spot (hcell 0 (by omega))
        simpa [Addr.add] using this
      rw [add_none hs'] at hc1
      obtain ⟨b', o', s'⟩ := a'
      simp only at hs' hc1
      subst hs'
      exact ⟨b', o', rfl, World.block_lt_of_cell? W _ hc1, hc1⟩
end
end Go.Proofs.Ytkfcebojfnnieaa
