/- How the arguments of the laws of layer 7 read. Conditions: none. -/
import Derived.Deep.Slices
import Derived.Test.YtajobinkabdmkaaI
import Derived.Maps.OwnIn
import Derived.RangeFuncNested
import Derived.RangeFuncCalls
import Derived.RangeFuncLeaves
import Derived.Shelf.Abstract
import Derived.OwnWalkIn
import Derived.TacticsInMore
import Derived.LoopNIn
import Derived.LoopIn
import Derived.Test.YtajobinkabdmkaaA
import Derived.Test.YtajobinkabdmkaaG
import Derived.Test.YtajobinkabdmkaaM
import Derived.Test.YtajobinkabdmkaaRows
import Derived.WalkKit
import Derived.WalkSpells
import Derived.WalkLawsBesides
import Derived.Laws.EntriesVeiled
import Derived.ProofKit
import Derived.OpenShut
import Derived.Lib.Hide
import Derived.BigQuiet
import Derived.Deep.QuietTactic
import Derived.Below
import Derived.Laws.OwnMore
import Derived.Deep.AppendLies
import Derived.Deep.Draws
import Derived.Laws.Rows
import Derived.Maps.AppendAt
import Derived.RegionTactic
import Derived.OwnWalk
import Derived.Deep.RegionHeld3
namespace Go.Proofs.Ytajobinkabdmkaa
open Go.Shelf Go.ChangeShapes Go.WideShapes Go.ChangeAt Go.RowKit
set_option linter.unusedSimpArgs false
set_option linter.unusedVariables false
section
variable {H : Type} {enc : TypeId × Value → H} {W : World} {base : Nat} {spare : Nat → Bool} {held : Bool}
theorem cells24 : Try.prog.cellsOf 24 = 2 := by kernel_rfl
theorem cells39 : Try.prog.cellsOf 39 = 6 := by kernel_rfl
theorem cells3 : Try.prog.cellsOf 3 = 1 := by kernel_rfl
theorem trod_one {fuel : Nat} {cs : List Value} {x : DataW H × List MemPlace} {o : Option (DataW H × List MemPlace)} (h : DataW.trod enc Try.prog W base spare held fuel 3 cs = o) (ho : o = some x) : ∃ a, cs = [.int .i64 a] := by
  subst ho
  obtain ⟨a, ha, _⟩ := DataW.trod_int Try.underlying3 h
  exact ⟨a, ha⟩
theorem trod_pt {fuel : Nat} {cs : List Value} {x : DataW H × List MemPlace} (h : DataW.trod enc Try.prog W base spare held fuel 24 cs = some x) : ∃ a b, cs = [.int .i64 a, .int .i64 b] := by
  obtain ⟨xs, n, _, _, hl, hx, hf⟩ := DataW.trod_struct Try.underlying24 h
  rw [cells24] at hl
  match cs, hl with
  | [u, v], _ =>
    have h0 := hf 0 _ rfl
    have h1 := hf 1 _ rfl
    simp only [List.getElem_toArray, List.getElem_cons_zero, List.getElem_cons_succ, cells3, List.drop_zero, List.drop_succ_cons, List.take_succ_cons, List.take_zero] at h0 h1
    have l2 : xs.length = 2 := hx
    match xs, l2 with
    | [y, z], _ =>
      obtain ⟨a, ha⟩ := trod_one h0 rfl
      obtain ⟨b, hb⟩ := trod_one h1 rfl
      simp at ha hb
      exact ⟨a, b, by rw [ha, hb]⟩
theorem trod_ord {fuel : Nat} {cs : List Value} {x : DataW H × List MemPlace} (h : DataW.trod enc Try.prog W base spare held fuel 39 cs = some x) :
    ∃ o : Ordr, cs = [.int .i64 o.f.1, .int .i64 o.f.2, .int .i64 o.t.1, .int .i64 o.t.2, .int .i64 o.a, .int .i64 o.z] := by
  obtain ⟨xs, n, _, _, hl, hx, hf⟩ := DataW.trod_struct Try.underlying39 h
  rw [cells39] at hl
  match cs, hl with
  | [c0, c1, c2, c3, c4, c5], _ =>
    have l4 : xs.length = 4 := hx
    match xs, l4 with
    | [y0, y1, y2, y3], _ =>
      have h0 := hf 0 _ rfl
      have h1 := hf 1 _ rfl
      have h2 := hf 2 _ rfl
      have h3 := hf 3 _ rfl
      simp only [List.getElem_toArray, List.getElem_cons_zero, List.getElem_cons_succ, cells3, cells24, List.drop_zero, List.drop_succ_cons, List.take_succ_cons, List.take_zero] at h0 h1 h2 h3
      obtain ⟨a, b, hab⟩ := trod_pt h0
      obtain ⟨c, d, hcd⟩ := trod_pt h1
      obtain ⟨e, he⟩ := trod_one h2 rfl
      obtain ⟨g, hg⟩ := trod_one h3 rfl
      simp at hab hcd he hg
      exact ⟨⟨(a, b), (c, d), e, g⟩, by simp [hab, hcd, he, hg]⟩
/-- What the reading of a '[]api.Order' tells the walk. -/
theorem read_ords {v : Value} {d : DataW H} {p : List MemPlace} {r : Reach} {b0 : Nat} (hv : Value.okWide Try.prog W r b0 22 v) (h : DataW.Trod enc Try.prog W 0 spare held 22 v d p) :
    ∃ (A : Option Addr) (c : Nat) (l : List Ordr), v = .slice A l.length c ∧ Ords W W.heap.size A l ∧ l.length ≤ c ∧ c ≤ maxLen := by
  obtain ⟨A, n, c, rfl⟩ := okWide_slice Try.underlying22 hv
  obtain ⟨fuel, hf⟩ := h
  rcases Go.Deep.open_slice Try.underlying22 hf with ⟨hcs, _⟩ | ⟨a, len, cap, m, nn, D, Pl, hcs, _, hlc, hcm, hmm, _, hi⟩
  · simp [Value.cells] at hcs
    obtain ⟨rfl, rfl, rfl⟩ := hcs
    exact ⟨none, 0, [], rfl, fun k o hk => by simp at hk, Nat.le_refl _, by simp⟩
  · simp [Value.cells] at hcs
    obtain ⟨rfl, rfl, rfl⟩ := hcs
    rw [cells39] at hi
    have hle : n ≤ m := by rw [hmm]; split <;> omega
    have hex : ∀ i, i < n → ∃ o : Ordr, W.cells? 0 (a.add (i * 6)) 6 = some [.int .i64 o.f.1, .int .i64 o.f.2, .int .i64 o.t.1, .int .i64 o.t.2, .int .i64 o.a, .int .i64 o.z] := fun i hin => by
      obtain ⟨cs', h1, h2⟩ := hi i (by omega)
      obtain ⟨o, rfl⟩ := trod_ord h2
      exact ⟨o, h1⟩
    have : Inhabited Ordr := ⟨⟨(0, 0), (0, 0), 0, 0⟩⟩
    obtain ⟨f, hfo⟩ := Go.Deep.choose_lt hex
    refine ⟨some a, c, (List.range n).map f, by simp, fun k o hk => ?_, by simpa using hlc, hcm⟩
    have hkn : k < n := by
      have := (List.getElem?_eq_some_iff.1 hk).1
      simpa using this
    have ho : o = f k := by
      rw [List.getElem?_map, List.getElem?_range hkn] at hk
      simpa using hk.symm
    subst ho
    obtain ⟨_, _, hat⟩ := World.cells?_some (hfo k hkn)
    obtain ⟨b, off, spot⟩ := a
    have hs : spot = none := by
      have h0 : 0 < n := by omega
      obtain ⟨_, _, hat0⟩ := World.cells?_some (hfo 0 h0)
      have := World.cell?_spot (hat0 0 (by omega))
      simpa [Addr.add] using this
    subst hs
    have e : ∀ j, j < 6 → W.cell? ⟨b, off + k * 6 + j, none⟩ = [Value.int .i64 (f k).f.1, .int .i64 (f k).f.2, .int .i64 (f k).t.1, .int .i64 (f k).t.2, .int .i64 (f k).a, .int .i64 (f k).z][j]? := fun j hj => by
      rw [← hat j hj]
      congr 1
      unfold Addr.add
      by_cases hk0 : k * 6 = 0 <;> by_cases hj0 : j = 0 <;> simp [hk0, hj0]
    refine ⟨b, off, rfl, ?_, e 0 (by omega), e 1 (by omega), e 2 (by omega), e 3 (by omega), e 4 (by omega), e 5 (by omega)⟩
    exact World.block_lt_of_cell? W _ (e 0 (by omega))
theorem read_pt {v : Value} {d : DataW H} {p : List MemPlace} {r : Reach} {b0 : Nat} (hv : Value.okWide Try.prog W r b0 24 v) (h : DataW.Trod enc Try.prog W base spare held 24 v d p) :
    ∃ x y : Int, v = .agg #[.int .i64 x, .int .i64 y] := by
  obtain ⟨cs, rfl, hsz⟩ := okWide_struct Try.underlying24 hv
  obtain ⟨fuel, hf⟩ := h
  obtain ⟨a, b, hab⟩ := trod_pt hf
  obtain ⟨l⟩ := cs
  simp [Value.cells] at hab
  subst hab
  exact ⟨a, b, rfl⟩
end
end Go.Proofs.Ytajobinkabdmkaa
