/- Part of the proof of TopOwnItem. Conditions: as stated in each theorem. -/
import Derived.Test.YthkmpegpmpdhaaaGreatDoorRa
import Derived.WalkMore
import Derived.Maps.OwnIn
import Derived.Deep.LoopGhost
import Derived.RangeFuncNested
import Derived.RangeFuncCalls
import Derived.RangeFuncLeaves
import Derived.RangeFuncWrites
import Derived.Shelf.Abstract
import Derived.Shelf.RegionOpen
import Derived.OwnWalkIn
import Derived.TacticsInMore
import Derived.LoopNIn
import Derived.LoopIn
import Derived.RangeFuncBound
import Derived.Deep.Slices
import Derived.ChangeOld
import Derived.Deep.Matrix
import Derived.OpenShut
import Derived.Test.YthkmpegpmpdhaaaGreatDoorProg
import Derived.WalkKit
import Derived.WalkSpells
import Derived.WalkLawsBesides
import Derived.Laws.EntriesVeiled
import Derived.ProofKit
import Derived.OpenShut
import Derived.Lib.Hide
import Derived.BigQuiet
import Derived.Deep.QuietTactic
import Derived.Deep.CutRange
import Derived.StillTailTactics
import Derived.Lib.SliceRun
import Derived.RangeFuncRecord
import Derived.Carry
import Derived.ChangeKeysEq
import Derived.Below
import Derived.Laws.OwnMore
import Derived.Deep.AppendLies
import Derived.Deep.Draws
import Derived.Laws.Rows
import Derived.Maps.AppendAt
import Derived.RegionTactic
import Derived.OwnWalk
import Derived.Deep.RegionHeld3
namespace Go.Proofs.YthkmpegpmpdhaaaGreatDoor
open Go.Shelf Go.ChangeShapes Go.WideShapes Go.ChangeAt Go.RowKit
set_option linter.unusedSimpArgs false
set_option linter.unusedVariables false
section
variable {H : Type} {enc : TypeId × Value → H} {W : World} {base : Nat} {spare : Nat → Bool} {held : Bool}
theorem add_none {a : Addr} (h : a.spot = none) (k : Nat) : a.add k = ⟨a.block, a.off + k, none⟩ := by
  obtain ⟨b, o, s⟩ := a
  simp only at h
  subst h
  unfold Addr.add; split <;> simp_all
theorem cells3 : Tryz.prog.cellsOf 3 = 1 := by kernel_rfl
theorem cells9 : Tryz.prog.cellsOf 9 = 1 := by kernel_rfl
theorem cells24 : Tryz.prog.cellsOf 24 = 1 := by kernel_rfl
theorem cells26 : Tryz.prog.cellsOf 26 = 6 := by kernel_rfl
theorem cells41 : Tryz.prog.cellsOf 41 = 1 := by kernel_rfl
theorem cells72 : Tryz.prog.cellsOf 72 = 3 := by kernel_rfl
set_option maxRecDepth 100000 in
/-- A row is read, if its elements are. -/
theorem read_row {α : Type} {R : RowTy α} (ok : RowOk Tryz.prog R) [Inhabited α] {t : TypeId} (ht : Tryz.prog.underlying t = some (.slice R.T)) (hk : Tryz.prog.cellsOf R.T = R.k) (G : α → Prop)
    (one : ∀ (fuel : Nat) (cs : List Value) (x : DataW H × List MemPlace), DataW.trod enc Tryz.prog W base spare held fuel R.T cs = some x → ∃ o : α, cs = R.enc o ∧ G o)
    {fuel : Nat} {cs : List Value} {x : DataW H × List MemPlace} (h : DataW.trod enc Tryz.prog W base spare held fuel t cs = some x) :
    ∃ (A : Option Addr) (c : Nat) (l : List α), cs = [.slice A l.length c] ∧ RecIn R W W.heap.size A l ∧ l.length ≤ c ∧ c ≤ maxLen ∧ ∀ o ∈ l, G o := by
  rcases Go.Deep.open_slice ht h with ⟨hcs, _⟩ | ⟨a, len, cap, m, nn, D, Pl, hcs, _, hlc, hcm, hmm, _, hi⟩
  · exact ⟨none, 0, [], hcs, fun k o hk => by simp at hk, Nat.le_refl _, by simp, by simp⟩
  · rw [hk] at hi
    have hle : len ≤ m := by rw [hmm]; split <;> omega
    have hex : ∀ i, i < len → ∃ o : α, W.cells? base (a.add (i * R.k)) R.k = some (R.enc o) ∧ G o := fun i hin => by
      obtain ⟨cs', h1, h2⟩ := hi i (by omega)
      obtain ⟨o, rfl, h3⟩ := one _ _ _ h2
      exact ⟨o, h1, h3⟩
    obtain ⟨f, hfo⟩ := Go.Deep.choose_lt hex
    refine ⟨some a, cap, (List.range len).map f, by simpa using hcs, fun k o hk => ?_, by simpa using hlc, hcm, fun o ho => ?_⟩
    · have hkn : k < len := by
        have := (List.getElem?_eq_some_iff.1 hk).1
        simpa using this
      have ho : o = f k := by
        rw [List.getElem?_map, List.getElem?_range hkn] at hk
        simpa using hk.symm
      subst ho
      obtain ⟨_, _, hat⟩ := World.cells?_some (hfo k hkn).1
      have hpos := ok.pos
      obtain ⟨b, off, spot⟩ := a
      have hs : spot = none := by
        have h0 : 0 < len := by omega
        obtain ⟨_, _, hat0⟩ := World.cells?_some (hfo 0 h0).1
        have hlen := ok.len (f 0)
        obtain ⟨v, hv⟩ : ∃ v, (R.enc (f 0))[0]? = some v := ⟨_, List.getElem?_eq_getElem (by omega)⟩
        have := hat0 0 (by omega)
        rw [hv] at this
        have := World.cell?_spot this
        simpa [Addr.add] using this
      subst hs
      have hlen := ok.len (f k)
      have e : ∀ j u, (R.enc (f k))[j]? = some u → W.cell? ⟨b, off + k * R.k + j, none⟩ = some u := fun j u hu => by
        have hj : j < R.k := by have := (List.getElem?_eq_some_iff.1 hu).1; omega
        rw [← hu, ← hat j hj, add_none (a := (⟨b, off, none⟩ : Addr)) rfl, add_none rfl]
      obtain ⟨v, hv⟩ : ∃ v, (R.enc (f k))[0]? = some v := ⟨_, List.getElem?_eq_getElem (by omega)⟩
      exact ⟨b, off, rfl, World.block_lt_of_cell? W _ (e 0 v hv), e⟩
    · obtain ⟨i, hi, rfl⟩ := List.mem_map.1 ho
      exact (hfo i (List.mem_range.1 hi)).2
theorem trod_one {fuel : Nat} {cs : List Value} {x : DataW H × List MemPlace} {o : Option (DataW H × List MemPlace)} (h : DataW.trod enc Tryz.prog W base spare held fuel 3 cs = o) (ho : o = some x) : ∃ a, cs = [.int .i64 a] ∧ (Lit.int .i64 a).wf = true := by
  subst ho
  obtain ⟨a, ha, _, hw⟩ := DataW.trod_int Tryz.underlying3 h
  exact ⟨a, ha, hw⟩
theorem trod_str {fuel : Nat} {cs : List Value} {x : DataW H × List MemPlace} {o : Option (DataW H × List MemPlace)} (h : DataW.trod enc Tryz.prog W base spare held fuel 9 cs = o) (ho : o = some x) : ∃ s : ByteArray, cs = [.string s] ∧ s.size ≤ maxLen := by
  subst ho
  obtain ⟨s, hs, _, hl⟩ := DataW.trod_string Tryz.underlying9 h
  exact ⟨s, hs, hl⟩
theorem trod_strs {fuel : Nat} {cs : List Value} {x : DataW H × List MemPlace} {o : Option (DataW H × List MemPlace)} (h : DataW.trod enc Tryz.prog W base spare held fuel 24 cs = o) (ho : o = some x) :
    ∃ (A : Option Addr) (c : Nat) (l : List ByteArray), cs = [.slice A l.length c] ∧ RecIn strR W W.heap.size A l ∧ l.length ≤ c ∧ c ≤ maxLen ∧ ∀ s ∈ l, s.size ≤ maxLen := by
  subst ho
  have : Inhabited ByteArray := ⟨ByteArray.empty⟩
  exact read_row strOk Tryz.underlying24 cells9 (fun s => s.size ≤ maxLen) (fun f c y hy => trod_str hy rfl) h
theorem trod_ints {fuel : Nat} {cs : List Value} {x : DataW H × List MemPlace} {o : Option (DataW H × List MemPlace)} (h : DataW.trod enc Tryz.prog W base spare held fuel 41 cs = o) (ho : o = some x) :
    ∃ (A : Option Addr) (c : Nat) (l : List Int), cs = [.slice A l.length c] ∧ RecIn intR W W.heap.size A l ∧ l.length ≤ c ∧ c ≤ maxLen ∧ ∀ y ∈ l, (Lit.int .i64 y).wf = true := by
  subst ho
  exact read_row intOk Tryz.underlying41 cells3 (fun y => (Lit.int .i64 y).wf = true) (fun f c y hy => trod_one hy rfl) h
def ScnOk (s : Scn) : Prop := -9223372036854775808 ≤ s.off ∧ s.off ≤ 9223372036854775807
set_option maxRecDepth 100000 in
theorem trod_scn {fuel : Nat} {cs : List Value} {x : DataW H × List MemPlace} (h : DataW.trod enc Tryz.prog W base spare held fuel 72 cs = some x) : ∃ s : Scn, cs = scR.enc s ∧ ScnOk s := by
  obtain ⟨xs, n, _, _, hl, hx, hf⟩ := DataW.trod_struct Tryz.underlying72 h
  rw [cells72] at hl
  match cs, hl with
  | [c0, c1, c2], _ =>
    have l4 : xs.length = 3 := hx
    match xs, l4 with
    | [y0, y1, y2], _ =>
      have h0 := hf 0 _ rfl
      have h1 := hf 1 _ rfl
      have h2 := hf 2 _ rfl
      simp only [List.getElem_toArray, List.getElem_cons_zero, List.getElem_cons_succ, cells3, List.drop_zero, List.drop_succ_cons, List.take_succ_cons, List.take_zero] at h0 h1 h2
      obtain ⟨a, ha, _⟩ := trod_one h0 rfl
      obtain ⟨b, hb, wb⟩ := trod_one h1 rfl
      obtain ⟨c, hc, _⟩ := trod_one h2 rfl
      simp at ha hb hc
      exact ⟨⟨a, b, c⟩, by simp [ha, hb, hc], bounds_i64 wb⟩
set_option maxRecDepth 100000 in
theorem trod_rec {fuel : Nat} {cs : List Value} {x : DataW H × List MemPlace} (h : DataW.trod enc Tryz.prog W base spare held fuel 26 cs = some x) : ∃ r : Rec, cs = rcR.enc r ∧ RecOk W W.heap.size r := by
  obtain ⟨xs, n, _, _, hl, hx, hf⟩ := DataW.trod_struct Tryz.underlying26 h
  rw [cells26] at hl
  match cs, hl with
  | [c0, c1, c2, c3, c4, c5], _ =>
    have l4 : xs.length = 6 := hx
    match xs, l4 with
    | [y0, y1, y2, y3, y4, y5], _ =>
      have h0 := hf 0 _ rfl
      have h1 := hf 1 _ rfl
      have h2 := hf 2 _ rfl
      have h3 := hf 3 _ rfl
      have h4 := hf 4 _ rfl
      have h5 := hf 5 _ rfl
      simp only [List.getElem_toArray, List.getElem_cons_zero, List.getElem_cons_succ, cells3, cells9, cells24, List.drop_zero, List.drop_succ_cons, List.take_succ_cons, List.take_zero] at h0 h1 h2 h3 h4 h5
      obtain ⟨a, ha, _⟩ := trod_one h0 rfl
      obtain ⟨b, hb, _⟩ := trod_one h1 rfl
      obtain ⟨c, hc, _⟩ := trod_one h2 rfl
      obtain ⟨d, hd, _⟩ := trod_one h3 rfl
      obtain ⟨s, hs, ws⟩ := trod_str h4 rfl
      obtain ⟨A, cc, con, he, r1, r2, r3, r4⟩ := trod_strs h5 rfl
      simp at ha hb hc hd hs he
      exact ⟨⟨a, b, c, d, s, con, A, cc⟩, by simp [ha, hb, hc, hd, hs, he], r1, Nat.le_trans ws (by unfold maxLen; omega), Nat.le_trans r2 (Nat.le_trans r3 (by unfold maxLen; omega)), fun y hy => Nat.le_trans (r4 y hy) (by unfold maxLen; omega)⟩
theorem trod_row {fuel : Nat} {cs : List Value} {x : DataW H × List MemPlace} (h : DataW.trod enc Tryz.prog W base spare held fuel 41 cs = some x) : ∃ r : Rw, cs = rwR.enc r ∧ RecIn intR W W.heap.size r.A r.l := by
  obtain ⟨A, c, l, e, h1, _⟩ := trod_ints h rfl
  exact ⟨⟨l, A, c⟩, e, h1⟩
set_option maxRecDepth 100000 in
theorem read_scs {v : Value} {d : DataW H} {p : List MemPlace} {r : Reach} {b0 : Nat} (hv : Value.okWide Tryz.prog W r b0 22 v) (h : DataW.Trod enc Tryz.prog W base spare held 22 v d p) :
    ∃ (A : Option Addr) (c : Nat) (l : List Scn), v = .slice A l.length c ∧ RecIn scR W W.heap.size A l ∧ l.length ≤ c ∧ c ≤ maxLen ∧ OffOk l := by
  obtain ⟨A, n, c, rfl⟩ := okWide_slice Tryz.underlying22 hv
  obtain ⟨fuel, hf⟩ := h
  have : Inhabited Scn := ⟨⟨0, 0, 0⟩⟩
  obtain ⟨A', c', l, hcs, h1, h2, h3, h4⟩ := read_row scOk Tryz.underlying22 cells72 ScnOk (fun f c y hy => trod_scn hy) hf
  simp [Value.cells] at hcs
  obtain ⟨rfl, rfl, rfl⟩ := hcs
  exact ⟨A, c, l, rfl, h1, h2, h3, h4⟩
set_option maxRecDepth 100000 in
theorem read_recs {v : Value} {d : DataW H} {p : List MemPlace} {r : Reach} {b0 : Nat} (hv : Value.okWide Tryz.prog W r b0 23 v) (h : DataW.Trod enc Tryz.prog W base spare held 23 v d p) :
    ∃ (A : Option Addr) (c : Nat) (l : List Rec), v = .slice A l.length c ∧ RecIn rcR W W.heap.size A l ∧ l.length ≤ c ∧ c ≤ maxLen ∧ ∀ x ∈ l, RecOk W W.heap.size x := by
  obtain ⟨A, n, c, rfl⟩ := okWide_slice Tryz.underlying23 hv
  obtain ⟨fuel, hf⟩ := h
  have : Inhabited Rec := ⟨⟨0, 0, 0, 0, ByteArray.empty, [], none, 0⟩⟩
  obtain ⟨A', c', l, hcs, h1, h2, h3, h4⟩ := read_row rcOk Tryz.underlying23 cells26 (RecOk W W.heap.size) (fun f c y hy => trod_rec hy) hf
  simp [Value.cells] at hcs
  obtain ⟨rfl, rfl, rfl⟩ := hcs
  exact ⟨A, c, l, rfl, h1, h2, h3, h4⟩
set_option maxRecDepth 100000 in
theorem read_rows {v : Value} {d : DataW H} {p : List MemPlace} {r : Reach} {b0 : Nat} (hv : Value.okWide Tryz.prog W r b0 27 v) (h : DataW.Trod enc Tryz.prog W base spare held 27 v d p) :
    ∃ (A : Option Addr) (c : Nat) (l : List Rw), v = .slice A l.length c ∧ RecIn rwR W W.heap.size A l ∧ l.length ≤ c ∧ c ≤ maxLen ∧ RowsOk W W.heap.size l := by
  obtain ⟨A, n, c, rfl⟩ := okWide_slice Tryz.underlying27 hv
  obtain ⟨fuel, hf⟩ := h
  have : Inhabited Rw := ⟨⟨[], none, 0⟩⟩
  obtain ⟨A', c', l, hcs, h1, h2, h3, h4⟩ := read_row rwOk Tryz.underlying27 cells41 (fun r => RecIn intR W W.heap.size r.A r.l) (fun f c y hy => trod_row hy) hf
  simp [Value.cells] at hcs
  obtain ⟨rfl, rfl, rfl⟩ := hcs
  exact ⟨A, c, l, rfl, h1, h2, h3, h4⟩
set_option maxRecDepth 100000 in
theorem read_rec {v : Value} {d : DataW H} {p : List MemPlace} {r : Reach} {b0 : Nat} (hv : Value.okWide Tryz.prog W r b0 26 v) (h : DataW.Trod enc Tryz.prog W base spare held 26 v d p) :
    ∃ x : Rec, v = recA x ∧ RecOk W W.heap.size x := by
  obtain ⟨cs, rfl, hsz⟩ := okWide_struct Tryz.underlying26 hv
  obtain ⟨fuel, hf⟩ := h
  obtain ⟨x, hx, hok⟩ := trod_rec hf
  obtain ⟨l⟩ := cs
  simp [Value.cells] at hx
  subst hx
  exact ⟨x, rfl, hok⟩
end
end Go.Proofs.YthkmpegpmpdhaaaGreatDoor
