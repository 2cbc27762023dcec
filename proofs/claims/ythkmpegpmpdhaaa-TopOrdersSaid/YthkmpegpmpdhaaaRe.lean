/- Part of the proofs of TopMoney and TopOrders. Conditions: as stated in each theorem. -/
import Derived.Test.YthkmpegpmpdhaaaOd
import Derived.Deep.CutRange
import Derived.StillTailTactics
import Derived.Lib.SliceRun
import Derived.RangeFuncRecord
import Derived.Carry
import Derived.ChangeKeysEq
import Derived.Shelf.SlSortCmp.Insertion1
import Derived.Shelf.Lay
import Derived.Ground.SlsfProg
import Derived.Sort.LotA
import Derived.Deep.Slices
import Derived.ChangeOld
import Derived.Deep.Matrix
import Derived.Test.YthkmpegpmpdhaaaRows
import Derived.WalkKit
import Derived.WalkSpells
import Derived.WalkLawsBesides
import Derived.Laws.EntriesVeiled
import Derived.ProofKit
import Derived.OpenShut
import Derived.Lib.Hide
import Derived.BigQuiet
import Derived.Deep.QuietTactic
import Derived.Below
import Derived.Laws.OwnMore
import Derived.Deep.AppendLies
import Derived.Deep.Draws
import Derived.Laws.Rows
import Derived.Maps.AppendAt
import Derived.RegionTactic
import Derived.OwnWalk
import Derived.Deep.RegionHeld3
namespace Go.Proofs.Ythkmpegpmpdhaaa
open Go.Shelf Go.Sort Go.ChangeShapes Go.WideShapes Go.ChangeAt Go.RowKit
set_option linter.unusedSimpArgs false
set_option linter.unusedVariables false
section
variable {H : Type} {enc : TypeId × Value → H} {W : World} {base : Nat} {spare : Nat → Bool} {held : Bool}
theorem add_none {a : Addr} (h : a.spot = none) (k : Nat) : a.add k = ⟨a.block, a.off + k, none⟩ := by
  obtain ⟨b, o, s⟩ := a
  simp only at h
  subst h
  unfold Addr.add; split <;> simp_all
set_option maxRecDepth 100000 in
theorem read_nums {ik : IntKind} {t e : TypeId} (ht : Try.prog.underlying t = some (.slice e)) (he : Try.prog.underlying e = some (.int ik)) (hc : Try.prog.cellsOf e = 1) {fuel : Nat} {cs : List Value} {x : DataW H × List MemPlace}
    (h : DataW.trod enc Try.prog W base spare held fuel t cs = some x) :
    ∃ (A : Option Addr) (c : Nat) (l : List Int), cs = [.slice A l.length c] ∧ Nums ik W W.heap.size A l ∧ l.length ≤ c ∧ c ≤ maxLen ∧ ∀ y ∈ l, (Lit.int ik y).wf = true := by
  rcases open_ints ht he hc h with ⟨hcs, _⟩ | ⟨a, len, cap, zs, hcs, _, hl, hm, hz, _, hcell, hwf⟩
  · exact ⟨none, 0, [], hcs, Nums.nil _, Nat.le_refl _, Nat.zero_le _, by simp⟩
  · have hle : len ≤ zs.length := by rw [hz]; split <;> omega
    have hlen : (zs.take len).length = len := by simp; omega
    refine ⟨some a, cap, zs.take len, by rw [hlen]; exact hcs, fun k y hk => ?_, by rw [hlen]; exact hl, hm, fun y hy => hwf y (List.mem_of_mem_take hy)⟩
    have hkl : k < len := by have := (List.getElem?_eq_some_iff.1 hk).1; omega
    have hc1 := hcell k (by omega)
    have hy : zs.getD k 0 = y := by
      rw [List.getElem?_take_of_lt hkl] at hk
      simp [List.getD_eq_getElem?_getD, hk]
    rw [hy] at hc1
    have hs : a.spot = none := by
      have h0 := hcell 0 (by omega)
      have := World.cell?_spot h0
      simpa [Addr.add] using this
    rw [add_none hs] at hc1
    obtain ⟨b, o, s⟩ := a
    simp only at hs hc1
    subst hs
    exact ⟨b, o, rfl, World.block_lt_of_cell? W _ hc1, hc1⟩
theorem cells3 : Try.prog.cellsOf 3 = 1 := by kernel_rfl
theorem cells28 : Try.prog.cellsOf 28 = 1 := by kernel_rfl
theorem cells80 : Try.prog.cellsOf 80 = 4 := by kernel_rfl
set_option maxRecDepth 100000 in
theorem read_ints {v : Value} {d : DataW H} {p : List MemPlace} {r : Reach} {b0 : Nat} (hv : Value.okWide Try.prog W r b0 28 v) (h : DataW.Trod enc Try.prog W 0 spare held 28 v d p) :
    ∃ (A : Option Addr) (c : Nat) (l : List Int), v = .slice A l.length c ∧ RecIn intR W W.heap.size A l ∧ l.length ≤ c ∧ c ≤ maxLen := by
  obtain ⟨A, n, c, rfl⟩ := okWide_slice Try.underlying28 hv
  obtain ⟨fuel, hf⟩ := h
  obtain ⟨A', c', l, hcs, h1, h2, h3, _⟩ := read_nums Try.underlying28 Try.underlying3 cells3 hf
  simp [Value.cells] at hcs
  obtain ⟨rfl, rfl, rfl⟩ := hcs
  exact ⟨A, c, l, rfl, ints_of h1, h2, h3⟩
set_option maxRecDepth 100000 in
theorem read_rows {v : Value} {d : DataW H} {p : List MemPlace} {r : Reach} {b0 : Nat} (hv : Value.okWide Try.prog W r b0 46 v) (h : DataW.Trod enc Try.prog W 0 (fun _ => true) held 46 v d p) :
    ∃ (A : Option Addr) (c : Nat) (l : List (List Int)), v = .slice A l.length c ∧ NumRows W W.heap.size A l ∧ l.length ≤ c ∧ c ≤ maxLen := by
  obtain ⟨A, n, c, rfl⟩ := okWide_slice Try.underlying46 hv
  obtain ⟨fuel, hf⟩ := h
  rcases Deep.open_int_rows Try.underlying46 Try.underlying28 Try.underlying3 cells28 cells3 hf with ⟨hcs, _⟩ | ⟨a, len, cap, A', L, C, Z, hcs, _, hl, hm, _, hrow⟩
  · simp [Value.cells] at hcs
    obtain ⟨rfl, rfl, rfl⟩ := hcs
    exact ⟨none, 0, [], rfl, fun k l hk => by simp at hk, Nat.le_refl _, Nat.zero_le _⟩
  · simp [Value.cells] at hcs
    obtain ⟨rfl, rfl, rfl⟩ := hcs
    refine ⟨some a, c, (List.range n).map fun k => (Z k).take (L k), by simp, fun k l hk => ?_, by simpa using hl, hm⟩
    have hkn : k < n := by have := (List.getElem?_eq_some_iff.1 hk).1; simpa using this
    have hle : l = (Z k).take (L k) := by simpa [hkn] using hk.symm
    subst hle
    obtain ⟨h1, h2, _, h4, _, h6, h7⟩ := hrow k (by omega)
    have hlen : ((Z k).take (L k)).length = L k := by simp; omega
    have hs : a.spot = none := by
      have := World.cell?_spot (hrow 0 (by omega)).1
      simpa [Addr.add] using this
    rw [add_none hs] at h1
    obtain ⟨b, o, s⟩ := a
    simp only at hs h1
    subst hs
    refine ⟨b, o, A' k, C k - L k, rfl, World.block_lt_of_cell? W _ h1, by rw [hlen, show L k + (C k - L k) = C k by omega]; exact h1, fun j y hj => ?_⟩
    have hjl : j < L k := by have := (List.getElem?_eq_some_iff.1 hj).1; omega
    cases hA : A' k with
    | none => have := h6 hA; omega
    | some a' =>
      obtain ⟨_, hcell⟩ := h7 a' hA
      have hc1 := hcell j (by omega)
      have hy : (Z k).getD j 0 = y := by
        rw [List.getElem?_take_of_lt hjl] at hj
        simp [List.getD_eq_getElem?_getD, hj]
      rw [hy] at hc1
      have hs' : a'.spot = none := by
        have := World.cell?_spot (hcell 0 (by omega))
        simpa [Addr.add] using this
      rw [add_none hs'] at hc1
      obtain ⟨b', o', s'⟩ := a'
      simp only at hs' hc1
      subst hs'
      exact ⟨b', o', rfl, World.block_lt_of_cell? W _ hc1, hc1⟩
theorem trod_one {fuel : Nat} {cs : List Value} {x : DataW H × List MemPlace} {o : Option (DataW H × List MemPlace)} (h : DataW.trod enc Try.prog W base spare held fuel 3 cs = o) (ho : o = some x) : ∃ a, cs = [.int .i64 a] ∧ (Lit.int .i64 a).wf = true := by
  subst ho
  obtain ⟨a, ha, _, hw⟩ := DataW.trod_int Try.underlying3 h
  exact ⟨a, ha, hw⟩
theorem trod_hd {fuel : Nat} {cs : List Value} {x : DataW H × List MemPlace} {o : Option (DataW H × List MemPlace)} (h : DataW.trod enc Try.prog W base spare held fuel 28 cs = o) (ho : o = some x) : ∃ a : Hd, cs = [hdV a] := by
  subst ho
  rcases Go.Deep.open_slice Try.underlying28 h with ⟨hcs, _⟩ | ⟨a, len, cap, m, nn, D, Pl, hcs, _⟩
  · exact ⟨(none, 0, 0), hcs⟩
  · exact ⟨(some a, len, cap), hcs⟩
set_option maxRecDepth 100000 in
theorem trod_ev {fuel : Nat} {cs : List Value} {x : DataW H × List MemPlace} (h : DataW.trod enc Try.prog W base spare held fuel 80 cs = some x) :
    ∃ o : EvC, cs = [.int .i64 o.1.o, .int .i64 o.1.lo, .int .i64 o.1.hi, hdV o.2] := by
  obtain ⟨xs, n, _, _, hl, hx, hf⟩ := DataW.trod_struct Try.underlying80 h
  rw [cells80] at hl
  match cs, hl with
  | [c0, c1, c2, c3], _ =>
    have l4 : xs.length = 4 := hx
    match xs, l4 with
    | [y0, y1, y2, y3], _ =>
      have h0 := hf 0 _ rfl
      have h1 := hf 1 _ rfl
      have h2 := hf 2 _ rfl
      have h3 := hf 3 _ rfl
      simp only [List.getElem_toArray, List.getElem_cons_zero, List.getElem_cons_succ, cells3, cells28, List.drop_zero, List.drop_succ_cons, List.take_succ_cons, List.take_zero] at h0 h1 h2 h3
      obtain ⟨a, ha, _⟩ := trod_one h0 rfl
      obtain ⟨b, hb, _⟩ := trod_one h1 rfl
      obtain ⟨c, hc, _⟩ := trod_one h2 rfl
      obtain ⟨e, he⟩ := trod_hd h3 rfl
      simp at ha hb hc he
      exact ⟨(⟨a, b, c⟩, e), by simp [ha, hb, hc, he]⟩
set_option maxRecDepth 100000 in
theorem read_evs {v : Value} {d : DataW H} {p : List MemPlace} {r : Reach} {b0 : Nat} (hv : Value.okWide Try.prog W r b0 47 v) (h : DataW.Trod enc Try.prog W 0 spare held 47 v d p) :
    ∃ (A : Option Addr) (c : Nat) (l : List EvC), v = .slice A l.length c ∧ RecIn evR W W.heap.size A l ∧ l.length ≤ c ∧ c ≤ maxLen := by
  obtain ⟨A, n, c, rfl⟩ := okWide_slice Try.underlying47 hv
  obtain ⟨fuel, hf⟩ := h
  rcases Go.Deep.open_slice Try.underlying47 hf with ⟨hcs, _⟩ | ⟨a, len, cap, m, nn, D, Pl, hcs, _, hlc, hcm, hmm, _, hi⟩
  · simp [Value.cells] at hcs
    obtain ⟨rfl, rfl, rfl⟩ := hcs
    exact ⟨none, 0, [], rfl, fun k o hk => by simp at hk, Nat.le_refl _, by simp⟩
  · simp [Value.cells] at hcs
    obtain ⟨rfl, rfl, rfl⟩ := hcs
    rw [cells80] at hi
    have hle : n ≤ m := by rw [hmm]; split <;> omega
    have hex : ∀ i, i < n → ∃ o : EvC, W.cells? 0 (a.add (i * 4)) 4 = some [.int .i64 o.1.o, .int .i64 o.1.lo, .int .i64 o.1.hi, hdV o.2] := fun i hin => by
      obtain ⟨cs', h1, h2⟩ := hi i (by omega)
      obtain ⟨o, rfl⟩ := trod_ev h2
      exact ⟨o, h1⟩
    have : Inhabited EvC := ⟨(⟨0, 0, 0⟩, (none, 0, 0))⟩
    obtain ⟨f, hfo⟩ := Go.Deep.choose_lt hex
    refine ⟨some a, c, (List.range n).map f, by simp, fun k o hk => ?_, by simpa using hlc, hcm⟩
    have hkn : k < n := by
      have := (List.getElem?_eq_some_iff.1 hk).1
      simpa using this
    have ho : o = f k := by
      rw [List.getElem?_map, List.getElem?_range hkn] at hk
      simpa using hk.symm
    subst ho
    obtain ⟨_, _, hat⟩ := World.cells?_some (hfo k hkn)
    obtain ⟨b, off, spot⟩ := a
    have hs : spot = none := by
      have h0 : 0 < n := by omega
      obtain ⟨_, _, hat0⟩ := World.cells?_some (hfo 0 h0)
      have := World.cell?_spot (hat0 0 (by omega))
      simpa [Addr.add] using this
    subst hs
    have e : ∀ j, j < 4 → W.cell? ⟨b, off + k * 4 + j, none⟩ = [Value.int .i64 (f k).1.o, .int .i64 (f k).1.lo, .int .i64 (f k).1.hi, hdV (f k).2][j]? := fun j hj => by
      rw [← hat j hj]
      congr 1
      unfold Addr.add
      by_cases hk0 : k * 4 = 0 <;> by_cases hj0 : j = 0 <;> simp [hk0, hj0]
    refine ⟨b, off, rfl, World.block_lt_of_cell? W _ (e 0 (by omega)), fun i u hu => ?_⟩
    have hi4 : i < 4 := (List.getElem?_eq_some_iff.1 hu).1
    exact (e i hi4).trans hu
end
end Go.Proofs.Ythkmpegpmpdhaaa
