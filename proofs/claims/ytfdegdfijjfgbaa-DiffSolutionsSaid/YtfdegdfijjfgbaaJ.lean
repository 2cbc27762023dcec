import Derived.Test.YtfdegdfijjfgbaaG
import Derived.Deep.Slices
import Derived.Test.YtfdegdfijjfgbaaRows
import Derived.WalkKit
import Derived.WalkSpells
import Derived.WalkLawsBesides
import Derived.Laws.EntriesVeiled
import Derived.ProofKit
import Derived.OpenShut
import Derived.Lib.Hide
import Derived.BigQuiet
import Derived.Deep.QuietTactic
import Derived.Below
import Derived.Laws.OwnMore
import Derived.Deep.AppendLies
import Derived.Deep.Draws
import Derived.Laws.Rows
import Derived.Maps.AppendAt
import Derived.RegionTactic
import Derived.OwnWalk
import Derived.Deep.RegionHeld3
namespace Go.Proofs.Ytfdegdfijjfgbaa
open Go.ChangeShapes Go.WideShapes Go.ChangeAt Go.RowKit
set_option linter.unusedSimpArgs false
set_option linter.unusedVariables false
section
variable {H : Type} {enc : TypeId × Value → H} {W : World} {base : Nat} {spare : Nat → Bool} {held : Bool}
theorem cells32 : Try.prog.cellsOf 32 = 3 := by kernel_rfl
theorem cells3 : Try.prog.cellsOf 3 = 1 := by kernel_rfl
theorem add_none {a : Addr} (h : a.spot = none) (k : Nat) : a.add k = ⟨a.block, a.off + k, none⟩ := by
  obtain ⟨b, o, s⟩ := a
  simp only at h
  subst h
  unfold Addr.add; split <;> simp_all
theorem read_nums {ik : IntKind} {t e : TypeId} (ht : Try.prog.underlying t = some (.slice e)) (he : Try.prog.underlying e = some (.int ik)) (hc : Try.prog.cellsOf e = 1) {fuel : Nat} {cs : List Value} {x : DataW H × List MemPlace}
    (h : DataW.trod enc Try.prog W base spare held fuel t cs = some x) :
    ∃ (A : Option Addr) (c : Nat) (l : List Int), cs = [.slice A l.length c] ∧ Nums ik W W.heap.size A l ∧ l.length ≤ c ∧ c ≤ maxLen ∧ ∀ y ∈ l, (Lit.int ik y).wf = true := by
  rcases open_ints ht he hc h with ⟨hcs, _⟩ | ⟨a, len, cap, zs, hcs, _, hl, hm, hz, _, hcell, hwf⟩
  · exact ⟨none, 0, [], hcs, Nums.nil _, Nat.le_refl _, Nat.zero_le _, by simp⟩
  · have hle : len ≤ zs.length := by rw [hz]; split <;> omega
    have hlen : (zs.take len).length = len := by simp; omega
    refine ⟨some a, cap, zs.take len, by rw [hlen]; exact hcs, fun k y hk => ?_, by rw [hlen]; exact hl, hm, fun y hy => hwf y (List.mem_of_mem_take hy)⟩
    have hkl : k < len := by have := (List.getElem?_eq_some_iff.1 hk).1; omega
    have hc1 := hcell k (by omega)
    have hy : zs.getD k 0 = y := by
      rw [List.getElem?_take_of_lt hkl] at hk
      simp [List.getD_eq_getElem?_getD, hk]
    rw [hy] at hc1
    have hs : a.spot = none := by
      have h0 := hcell 0 (by omega)
      have := World.cell?_spot h0
      simpa [Addr.add] using this
    rw [add_none hs] at hc1
    obtain ⟨b, o, s⟩ := a
    simp only at hs hc1
    subst hs
    exact ⟨b, o, rfl, World.block_lt_of_cell? W _ hc1, hc1⟩
/-- What the reading of a '[]int' tells the walk. -/
theorem read_ints {v : Value} {d : DataW H} {p : List MemPlace} {r : Reach} {b0 : Nat} (hv : Value.okWide Try.prog W r b0 30 v) (h : DataW.Trod enc Try.prog W 0 spare held 30 v d p) :
    ∃ (A : Option Addr) (c : Nat) (l : List Int), v = .slice A l.length c ∧ Nums .i64 W W.heap.size A l ∧ l.length ≤ c ∧ c ≤ maxLen := by
  obtain ⟨A, n, c, rfl⟩ := okWide_slice Try.underlying30 hv
  obtain ⟨fuel, hf⟩ := h
  obtain ⟨A', c', l, hcs, h1, h2, h3, _⟩ := read_nums Try.underlying30 Try.underlying3 cells3 hf
  simp [Value.cells] at hcs
  obtain ⟨rfl, rfl, rfl⟩ := hcs
  exact ⟨A, c, l, rfl, h1, h2, h3⟩
theorem trod_one {fuel : Nat} {cs : List Value} {x : DataW H × List MemPlace} {o : Option (DataW H × List MemPlace)} (h : DataW.trod enc Try.prog W base spare held fuel 3 cs = o) (ho : o = some x) : ∃ a, cs = [.int .i64 a] ∧ (Lit.int .i64 a).wf = true := by
  subst ho
  obtain ⟨a, ha, _, hw⟩ := DataW.trod_int Try.underlying3 h
  exact ⟨a, ha, hw⟩
theorem trod_bnd {fuel : Nat} {cs : List Value} {x : DataW H × List MemPlace} (h : DataW.trod enc Try.prog W base spare held fuel 32 cs = some x) :
    ∃ o : Bd, cs = [.int .i64 o.f, .int .i64 o.t, .int .i64 o.m] := by
  obtain ⟨xs, n, _, _, hl, hx, hf⟩ := DataW.trod_struct Try.underlying32 h
  rw [cells32] at hl
  match cs, hl with
  | [c0, c1, c2], _ =>
    have l4 : xs.length = 3 := hx
    match xs, l4 with
    | [y0, y1, y2], _ =>
      have h0 := hf 0 _ rfl
      have h1 := hf 1 _ rfl
      have h2 := hf 2 _ rfl
      simp only [List.getElem_toArray, List.getElem_cons_zero, List.getElem_cons_succ, cells3, List.drop_zero, List.drop_succ_cons, List.take_succ_cons, List.take_zero] at h0 h1 h2
      obtain ⟨a, ha, _⟩ := trod_one h0 rfl
      obtain ⟨b, hb, _⟩ := trod_one h1 rfl
      obtain ⟨c, hc, _⟩ := trod_one h2 rfl
      simp at ha hb hc
      exact ⟨⟨a, b, c⟩, by simp [ha, hb, hc]⟩
/-- What the reading of a '[]api.Bound' tells the walk. -/
theorem read_bnds {v : Value} {d : DataW H} {p : List MemPlace} {r : Reach} {b0 : Nat} (hv : Value.okWide Try.prog W r b0 22 v) (h : DataW.Trod enc Try.prog W 0 spare held 22 v d p) :
    ∃ (A : Option Addr) (c : Nat) (l : List Bd), v = .slice A l.length c ∧ Bnds W W.heap.size A l ∧ l.length ≤ c ∧ c ≤ maxLen := by
  obtain ⟨A, n, c, rfl⟩ := okWide_slice Try.underlying22 hv
  obtain ⟨fuel, hf⟩ := h
  rcases Go.Deep.open_slice Try.underlying22 hf with ⟨hcs, _⟩ | ⟨a, len, cap, m, nn, D, Pl, hcs, _, hlc, hcm, hmm, _, hi⟩
  · simp [Value.cells] at hcs
    obtain ⟨rfl, rfl, rfl⟩ := hcs
    exact ⟨none, 0, [], rfl, fun k o hk => by simp at hk, Nat.le_refl _, by simp⟩
  · simp [Value.cells] at hcs
    obtain ⟨rfl, rfl, rfl⟩ := hcs
    rw [cells32] at hi
    have hle : n ≤ m := by rw [hmm]; split <;> omega
    have hex : ∀ i, i < n → ∃ o : Bd, W.cells? 0 (a.add (i * 3)) 3 = some [.int .i64 o.f, .int .i64 o.t, .int .i64 o.m] := fun i hin => by
      obtain ⟨cs', h1, h2⟩ := hi i (by omega)
      obtain ⟨o, rfl⟩ := trod_bnd h2
      exact ⟨o, h1⟩
    have : Inhabited Bd := ⟨⟨0, 0, 0⟩⟩
    obtain ⟨f, hfo⟩ := Go.Deep.choose_lt hex
    refine ⟨some a, c, (List.range n).map f, by simp, fun k o hk => ?_, by simpa using hlc, hcm⟩
    have hkn : k < n := by
      have := (List.getElem?_eq_some_iff.1 hk).1
      simpa using this
    have ho : o = f k := by
      rw [List.getElem?_map, List.getElem?_range hkn] at hk
      simpa using hk.symm
    subst ho
    obtain ⟨_, _, hat⟩ := World.cells?_some (hfo k hkn)
    obtain ⟨b, off, spot⟩ := a
    have hs : spot = none := by
      have h0 : 0 < n := by omega
      obtain ⟨_, _, hat0⟩ := World.cells?_some (hfo 0 h0)
      have := World.cell?_spot (hat0 0 (by omega))
      simpa [Addr.add] using this
    subst hs
    have e : ∀ j, j < 3 → W.cell? ⟨b, off + k * 3 + j, none⟩ = [Value.int .i64 (f k).f, .int .i64 (f k).t, .int .i64 (f k).m][j]? := fun j hj => by
      rw [← hat j hj]
      congr 1
      unfold Addr.add
      by_cases hk0 : k * 3 = 0 <;> by_cases hj0 : j = 0 <;> simp [hk0, hj0]
    refine ⟨b, off, rfl, ?_, e 0 (by omega), e 1 (by omega), e 2 (by omega)⟩
    exact World.block_lt_of_cell? W _ (e 0 (by omega))
theorem read_bnd {v : Value} {d : DataW H} {p : List MemPlace} {r : Reach} {b0 : Nat} (hv : Value.okWide Try.prog W r b0 32 v) (h : DataW.Trod enc Try.prog W base spare held 32 v d p) :
    ∃ x y z : Int, v = .agg #[.int .i64 x, .int .i64 y, .int .i64 z] := by
  obtain ⟨cs, rfl, hsz⟩ := okWide_struct Try.underlying32 hv
  obtain ⟨fuel, hf⟩ := h
  obtain ⟨o, hab⟩ := trod_bnd hf
  obtain ⟨l⟩ := cs
  simp [Value.cells] at hab
  subst hab
  exact ⟨o.f, o.t, o.m, rfl⟩
end
end Go.Proofs.Ytfdegdfijjfgbaa
