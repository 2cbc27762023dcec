/- Part of the proof of TopOwnItem. Conditions: as stated in each theorem. -/
import Derived.Test.YthkmpegpmpdhaaaGreatDoorZFa
import Derived.Test.YthkmpegpmpdhaaaGreatDoorZNb
import Derived.Test.YthkmpegpmpdhaaaGreatDoorProg
import Derived.WalkMore
import Derived.Maps.OwnIn
import Derived.Deep.LoopGhost
import Derived.RangeFuncNested
import Derived.RangeFuncCalls
import Derived.RangeFuncLeaves
import Derived.RangeFuncWrites
import Derived.Shelf.Abstract
import Derived.Shelf.RegionOpen
import Derived.OwnWalkIn
import Derived.TacticsInMore
import Derived.LoopNIn
import Derived.LoopIn
import Derived.RangeFuncBound
import Derived.Deep.Slices
import Derived.ChangeOld
import Derived.Deep.Matrix
import Derived.OpenShut
import Derived.LaidLaws
import Derived.Lib.LaidTab
import Derived.ChangeArms
import Derived.WalkKit
import Derived.WalkSpells
import Derived.WalkLawsBesides
import Derived.Laws.EntriesVeiled
import Derived.ProofKit
import Derived.Lib.Hide
import Derived.BigQuiet
import Derived.Deep.QuietTactic
import Derived.Deep.CutRange
import Derived.StillTailTactics
import Derived.Lib.SliceRun
import Derived.RangeFuncRecord
import Derived.Carry
import Derived.ChangeKeysEq
import Derived.Below
import Derived.Laws.OwnMore
import Derived.Deep.AppendLies
import Derived.Deep.Draws
import Derived.Laws.Rows
import Derived.Maps.AppendAt
import Derived.RegionTactic
import Derived.OwnWalk
import Derived.Deep.RegionHeld3
namespace Go.Proofs.YthkmpegpmpdhaaaGreatDoor
open Go.Shelf Go.ChangeShapes Go.WideShapes Go.ChangeAt Go.RowKit
set_option linter.unusedSimpArgs false
set_option linter.unusedVariables false
/-- A table of texts as a row lists it. -/
def strData {H : Type} (ss : List ByteArray) : DataW H := .agg (ss.map fun s => .lit (.string s.data.toList))
theorem cells_of_strs {H : Type} {enc : TypeId × Value → H} {P : Program} {w : World} {base : Nat} {sp : Nat → Bool} {held : Bool} {fuel : Nat} {t e : TypeId} {n : Nat} {cs : List Value} {ss : List ByteArray} {p : List MemPlace}
    (ht : P.underlying t = some (.array n e)) (he : P.underlying e = some .string) (hce : P.cellsOf e = 1) (hct : P.cellsOf t = n)
    (h : DataW.trod enc P w base sp held fuel t cs = some (strData ss, p)) : cs = ss.map Value.string := by
  cases fuel with
  | zero => simp [DataW.trod] at h
  | succ fuel =>
    simp only [DataW.trod, ht, hce, hct, Nat.mul_one] at h
    split at h
    · rename_i hl
      obtain ⟨xs, hm, hx⟩ := Option.map_eq_some_iff.1 h
      have hxs : xs.map (·.1) = ss.map fun s => (DataW.lit (.string s.data.toList) : DataW H) := by
        have := congrArg Prod.fst hx
        simpa [strData] using this
      have hxl : xs.length = n := by simpa using Lib.mapM_length hm
      have hsl : ss.length = n := by
        have := congrArg List.length hxs
        simp at this
        omega
      apply List.ext_getElem?
      intro i
      by_cases hi : i < n
      · obtain ⟨b, hb, hf⟩ := Lib.mapM_at hm i i (by simp [hi])
        obtain ⟨s, hc, rfl, _⟩ := DataW.trod_string he hf
        have h1 : cs[i]? = some (.string s) := by
          have := congrArg (·[0]?) hc
          simpa [List.getElem?_take, List.getElem?_drop] using this
        have h2 : (xs.map (·.1))[i]? = some (DataW.lit (.string s.data.toList) : DataW H) := by simp [hb]
        rw [hxs] at h2
        simp only [List.getElem?_map, Option.map_eq_some_iff, DataW.lit.injEq, Lit.string.injEq] at h2
        obtain ⟨s', hs', e'⟩ := h2
        have e2 : s' = s := by
          cases s'; cases s
          simp only at e'
          exact congrArg ByteArray.mk (Array.toList_inj.1 e')
        simp [h1, hs', e2]
      · rw [List.getElem?_eq_none (by omega), List.getElem?_eq_none (by simp; omega)]
    · cases h
theorem kw_of {W : World} {rest : List (String × DataW Unit)} (h : laidMet Tryz.prog (("postilion/survey.keyWords", strData kwL) :: rest) W) : Kw W := by
  obtain ⟨ps, ⟨g', t', cs, fuel, p, q, hg', ht', hvar, hd, _, _⟩, _⟩ := h
  have hg : Tryz.prog.globalNamed "postilion/survey.keyWords" = some 2 := by kernel_rfl
  obtain rfl := Option.some.inj (hg.symm.trans hg')
  have hty : (Tryz.prog.globals[2]?).map (·.type) = some 342 := by kernel_rfl
  obtain rfl := Option.some.inj (hty.symm.trans ht')
  have hcs := cells_of_strs under342 Tryz.underlying9 (by kernel_rfl) (by kernel_rfl) hd
  intro i s hi
  have := World.var?_cell hg hvar i
  rw [this, ← Array.getElem?_toList, hcs]
  simp [hi]
section
variable {H : Type} {enc : TypeId × Value → H} {W : World} {base : Nat} {spare : Nat → Bool} {held : Bool}
theorem add_none {a : Addr} (h : a.spot = none) (k : Nat) : a.add k = ⟨a.block, a.off + k, none⟩ := by
  obtain ⟨b, o, s⟩ := a
  simp only at h
  subst h
  unfold Addr.add; split <;> simp_all
theorem cells3 : Tryz.prog.cellsOf 3 = 1 := by kernel_rfl
theorem cells9 : Tryz.prog.cellsOf 9 = 1 := by kernel_rfl
theorem cells24 : Tryz.prog.cellsOf 24 = 1 := by kernel_rfl
theorem cells41 : Tryz.prog.cellsOf 41 = 1 := by kernel_rfl
theorem cells4 : Tryz.prog.cellsOf 4 = 1 := by kernel_rfl
theorem cells62 : Tryz.prog.cellsOf 62 = 1 := by kernel_rfl
theorem cells64 : Tryz.prog.cellsOf 64 = 10 := by kernel_rfl
theorem cells192 : Tryz.prog.cellsOf 192 = 4 := by kernel_rfl
theorem cells49 : Tryz.prog.cellsOf 49 = 2 := by kernel_rfl
theorem cellsPT : Tryz.prog.cellsOf 61 = 5 := by kernel_rfl
theorem cells72 : Tryz.prog.cellsOf 72 = 3 := by kernel_rfl
set_option maxRecDepth 100000 in
/-- A row is read, if its elements are. -/
theorem read_row {α : Type} {R : RowTy α} (ok : RowOk Tryz.prog R) [Inhabited α] {t : TypeId} (ht : Tryz.prog.underlying t = some (.slice R.T)) (hk : Tryz.prog.cellsOf R.T = R.k) (G : α → Prop)
    (one : ∀ (fuel : Nat) (cs : List Value) (x : DataW H × List MemPlace), DataW.trod enc Tryz.prog W base spare held fuel R.T cs = some x → ∃ o : α, cs = R.enc o ∧ G o)
    {fuel : Nat} {cs : List Value} {x : DataW H × List MemPlace} (h : DataW.trod enc Tryz.prog W base spare held fuel t cs = some x) :
    ∃ (A : Option Addr) (c : Nat) (l : List α), cs = [.slice A l.length c] ∧ RecIn R W W.heap.size A l ∧ l.length ≤ c ∧ c ≤ maxLen ∧ ∀ o ∈ l, G o := by
  rcases Go.Deep.open_slice ht h with ⟨hcs, _⟩ | ⟨a, len, cap, m, nn, D, Pl, hcs, _, hlc, hcm, hmm, _, hi⟩
  · exact ⟨none, 0, [], hcs, fun k o hk => by simp at hk, Nat.le_refl _, by simp, by simp⟩
  · rw [hk] at hi
    have hle : len ≤ m := by rw [hmm]; split <;> omega
    have hex : ∀ i, i < len → ∃ o : α, W.cells? base (a.add (i * R.k)) R.k = some (R.enc o) ∧ G o := fun i hin => by
      obtain ⟨cs', h1, h2⟩ := hi i (by omega)
      obtain ⟨o, rfl, h3⟩ := one _ _ _ h2
      exact ⟨o, h1, h3⟩
    obtain ⟨f, hfo⟩ := Go.Deep.choose_lt hex
    refine ⟨some a, cap, (List.range len).map f, by simpa using hcs, fun k o hk => ?_, by simpa using hlc, hcm, fun o ho => ?_⟩
    · have hkn : k < len := by
        have := (List.getElem?_eq_some_iff.1 hk).1
        simpa using this
      have ho : o = f k := by
        rw [List.getElem?_map, List.getElem?_range hkn] at hk
        simpa using hk.symm
      subst ho
      obtain ⟨_, _, hat⟩ := World.cells?_some (hfo k hkn).1
      have hpos := ok.pos
      obtain ⟨b, off, spot⟩ := a
      have hs : spot = none := by
        have h0 : 0 < len := by omega
        obtain ⟨_, _, hat0⟩ := World.cells?_some (hfo 0 h0).1
        have hlen := ok.len (f 0)
        obtain ⟨v, hv⟩ : ∃ v, (R.enc (f 0))[0]? = some v := ⟨_, List.getElem?_eq_getElem (by omega)⟩
        have := hat0 0 (by omega)
        rw [hv] at this
        have := World.cell?_spot this
        simpa [Addr.add] using this
      subst hs
      have hlen := ok.len (f k)
      have e : ∀ j u, (R.enc (f k))[j]? = some u → W.cell? ⟨b, off + k * R.k + j, none⟩ = some u := fun j u hu => by
        have hj : j < R.k := by have := (List.getElem?_eq_some_iff.1 hu).1; omega
        rw [← hu, ← hat j hj, add_none (a := (⟨b, off, none⟩ : Addr)) rfl, add_none rfl]
      obtain ⟨v, hv⟩ : ∃ v, (R.enc (f k))[0]? = some v := ⟨_, List.getElem?_eq_getElem (by omega)⟩
      exact ⟨b, off, rfl, World.block_lt_of_cell? W _ (e 0 v hv), e⟩
    · obtain ⟨i, hi, rfl⟩ := List.mem_map.1 ho
      exact (hfo i (List.mem_range.1 hi)).2
theorem trod_one {fuel : Nat} {cs : List Value} {x : DataW H × List MemPlace} {o : Option (DataW H × List MemPlace)} (h : DataW.trod enc Tryz.prog W base spare held fuel 3 cs = o) (ho : o = some x) : ∃ a, cs = [.int .i64 a] ∧ (Lit.int .i64 a).wf = true := by
  subst ho
  obtain ⟨a, ha, _, hw⟩ := DataW.trod_int Tryz.underlying3 h
  exact ⟨a, ha, hw⟩
theorem trod_str {fuel : Nat} {cs : List Value} {x : DataW H × List MemPlace} {o : Option (DataW H × List MemPlace)} (h : DataW.trod enc Tryz.prog W base spare held fuel 9 cs = o) (ho : o = some x) : ∃ s : ByteArray, cs = [.string s] ∧ s.size ≤ maxLen := by
  subst ho
  obtain ⟨s, hs, _, hl⟩ := DataW.trod_string Tryz.underlying9 h
  exact ⟨s, hs, hl⟩
theorem trod_strs {fuel : Nat} {cs : List Value} {x : DataW H × List MemPlace} {o : Option (DataW H × List MemPlace)} (h : DataW.trod enc Tryz.prog W base spare held fuel 24 cs = o) (ho : o = some x) :
    ∃ (A : Option Addr) (c : Nat) (l : List ByteArray), cs = [.slice A l.length c] ∧ RecIn strR W W.heap.size A l ∧ l.length ≤ c ∧ c ≤ maxLen ∧ ∀ s ∈ l, s.size ≤ maxLen := by
  subst ho
  have : Inhabited ByteArray := ⟨ByteArray.empty⟩
  exact read_row strOk Tryz.underlying24 cells9 (fun s => s.size ≤ maxLen) (fun f c y hy => trod_str hy rfl) h
theorem trod_ints {fuel : Nat} {cs : List Value} {x : DataW H × List MemPlace} {o : Option (DataW H × List MemPlace)} (h : DataW.trod enc Tryz.prog W base spare held fuel 41 cs = o) (ho : o = some x) :
    ∃ (A : Option Addr) (c : Nat) (l : List Int), cs = [.slice A l.length c] ∧ RecIn intR W W.heap.size A l ∧ l.length ≤ c ∧ c ≤ maxLen ∧ ∀ y ∈ l, (Lit.int .i64 y).wf = true := by
  subst ho
  exact read_row intOk Tryz.underlying41 cells3 (fun y => (Lit.int .i64 y).wf = true) (fun f c y hy => trod_one hy rfl) h
set_option maxRecDepth 100000 in
theorem trod_scn {fuel : Nat} {cs : List Value} {x : DataW H × List MemPlace} (h : DataW.trod enc Tryz.prog W base spare held fuel 72 cs = some x) : ∃ s : Scn, cs = scR.enc s ∧ True := by
  obtain ⟨xs, n, _, _, hl, hx, hf⟩ := DataW.trod_struct Tryz.underlying72 h
  rw [cells72] at hl
  match cs, hl with
  | [c0, c1, c2], _ =>
    have l4 : xs.length = 3 := hx
    match xs, l4 with
    | [y0, y1, y2], _ =>
      have h0 := hf 0 _ rfl
      have h1 := hf 1 _ rfl
      have h2 := hf 2 _ rfl
      simp only [List.getElem_toArray, List.getElem_cons_zero, List.getElem_cons_succ, cells3, List.drop_zero, List.drop_succ_cons, List.take_succ_cons, List.take_zero] at h0 h1 h2
      obtain ⟨a, ha, _⟩ := trod_one h0 rfl
      obtain ⟨b, hb, wb⟩ := trod_one h1 rfl
      obtain ⟨c, hc, _⟩ := trod_one h2 rfl
      simp at ha hb hc
      exact ⟨⟨a, b, c⟩, by simp [ha, hb, hc], trivial⟩
set_option maxRecDepth 100000 in
theorem trod_stp {fuel : Nat} {cs : List Value} {x : DataW H × List MemPlace} (h : DataW.trod enc Tryz.prog W base spare held fuel 192 cs = some x) : ∃ s : Stp, cs = stR.enc s ∧ True := by
  obtain ⟨xs, n, _, _, hl, hx, hf⟩ := DataW.trod_struct Tryz.underlying192 h
  rw [cells192] at hl
  match cs, hl with
  | [c0, c1, c2, c3], _ =>
    have l4 : xs.length = 4 := hx
    match xs, l4 with
    | [y0, y1, y2, y3], _ =>
      have h0 := hf 0 _ rfl
      have h1 := hf 1 _ rfl
      have h2 := hf 2 _ rfl
      have h3 := hf 3 _ rfl
      simp only [List.getElem_toArray, List.getElem_cons_zero, List.getElem_cons_succ, cells3, List.drop_zero, List.drop_succ_cons, List.take_succ_cons, List.take_zero] at h0 h1 h2 h3
      obtain ⟨a, ha, _⟩ := trod_one h0 rfl
      obtain ⟨b, hb, _⟩ := trod_one h1 rfl
      obtain ⟨c, hc, _⟩ := trod_one h2 rfl
      obtain ⟨d, hd, _⟩ := trod_one h3 rfl
      simp at ha hb hc hd
      exact ⟨⟨a, b, c, d⟩, by simp [ha, hb, hc, hd], trivial⟩
theorem trod_stps {fuel : Nat} {cs : List Value} {x : DataW H × List MemPlace} {o : Option (DataW H × List MemPlace)} (h : DataW.trod enc Tryz.prog W base spare held fuel 62 cs = o) (ho : o = some x) :
    ∃ (A : Option Addr) (c : Nat) (l : List Stp), cs = [.slice A l.length c] ∧ RecIn stR W W.heap.size A l := by
  subst ho
  have : Inhabited Stp := ⟨⟨0, 0, 0, 0⟩⟩
  obtain ⟨A, c, l, h1, h2, _⟩ := read_row stOk Tryz.underlying62 cells192 (fun _ => True) (fun f c y hy => trod_stp hy) h
  exact ⟨A, c, l, h1, h2⟩
theorem trod_flag {fuel : Nat} {cs : List Value} {x : DataW H × List MemPlace} {o : Option (DataW H × List MemPlace)} (h : DataW.trod enc Tryz.prog W base spare held fuel 4 cs = o) (ho : o = some x) : ∃ b, cs = [.bool b] := by
  subst ho
  obtain ⟨b, hb, _⟩ := DataW.trod_bool Tryz.underlying4 h
  exact ⟨b, hb⟩
set_option maxRecDepth 100000 in
theorem trod_post {fuel : Nat} {cs : List Value} {x : DataW H × List MemPlace} {o : Option (DataW H × List MemPlace)} (h : DataW.trod enc Tryz.prog W base spare held fuel 61 cs = o) (ho : o = some x) : ∃ s a b c d, cs = [.string s, .int .i64 a, .int .i64 b, .int .i64 c, .int .i64 d] := by
  subst ho
  obtain ⟨xs, n, _, _, hl, hx, hf⟩ := DataW.trod_struct Tryz.underlying61 h
  rw [cellsPT] at hl
  match cs, hl with
  | [c0, c1, c2, c3, c4], _ =>
    have l4 : xs.length = 5 := hx
    match xs, l4 with
    | [y0, y1, y2, y3, y4], _ =>
      have h0 := hf 0 _ rfl
      have h1 := hf 1 _ rfl
      have h2 := hf 2 _ rfl
      have h3 := hf 3 _ rfl
      have h4 := hf 4 _ rfl
      simp only [List.getElem_toArray, List.getElem_cons_zero, List.getElem_cons_succ, cells3, cells9, List.drop_zero, List.drop_succ_cons, List.take_succ_cons, List.take_zero] at h0 h1 h2 h3 h4
      obtain ⟨s, hs, _⟩ := trod_str h0 rfl
      obtain ⟨a, ha, _⟩ := trod_one h1 rfl
      obtain ⟨b, hb, _⟩ := trod_one h2 rfl
      obtain ⟨c, hc, _⟩ := trod_one h3 rfl
      obtain ⟨d, hd, _⟩ := trod_one h4 rfl
      simp at hs ha hb hc hd
      exact ⟨s, a, b, c, d, by simp [hs, ha, hb, hc, hd]⟩
/-- A track of the caller's. -/
structure TrkIn (W : World) (t : Trk) : Prop where
  ok : TrkOk W W.heap.size t
  lb : ∀ s ∈ t.lb, s.size ≤ 9223372036854775807
  se : ∀ s ∈ t.se, s.size ≤ 9223372036854775807
set_option maxRecDepth 100000 in
theorem trod_trk {fuel : Nat} {cs : List Value} {x : DataW H × List MemPlace} (h : DataW.trod enc Tryz.prog W base spare held fuel 64 cs = some x) : ∃ t : Trk, cs = tkR.enc t ∧ TrkIn W t := by
  obtain ⟨xs, n, _, _, hl, hx, hf⟩ := DataW.trod_struct Tryz.underlying64 h
  rw [cells64] at hl
  match cs, hl with
  | [c0, c1, c2, c3, c4, c5, c6, c7, c8, c9], _ =>
    have l4 : xs.length = 6 := hx
    match xs, l4 with
    | [y0, y1, y2, y3, y4, y5], _ =>
      have h0 := hf 0 _ rfl
      have h1 := hf 1 _ rfl
      have h2 := hf 2 _ rfl
      have h3 := hf 3 _ rfl
      have h4 := hf 4 _ rfl
      have h5 := hf 5 _ rfl
      simp only [List.getElem_toArray, List.getElem_cons_zero, List.getElem_cons_succ, cells3, cells9, cells4, cells24, cells41, cells62, cellsPT, List.drop_zero, List.drop_succ_cons, List.take_succ_cons, List.take_zero] at h0 h1 h2 h3 h4 h5
      obtain ⟨s, a, b, c, d, hp⟩ := trod_post h0 rfl
      obtain ⟨sA, sc, st, hst, r1⟩ := trod_stps h1 rfl
      obtain ⟨q, hq⟩ := trod_flag h2 rfl
      obtain ⟨iA, ic, si, hsi, r2, _⟩ := trod_ints h3 rfl
      obtain ⟨lA, lc, lb, hlb, r3, _, _, r4⟩ := trod_strs h4 rfl
      obtain ⟨eA, ec, se, hse, r5, _, _, r6⟩ := trod_strs h5 rfl
      simp at hp hst hq hsi hlb hse
      obtain ⟨rfl, rfl, rfl, rfl, rfl⟩ := hp
      exact ⟨⟨s, a, b, c, d, st, sA, sc, q, si, iA, ic, lb, lA, lc, se, eA, ec⟩, by simp [hst, hq, hsi, hlb, hse], ⟨r1, r2, r3, r5⟩, fun y hy => Nat.le_trans (r4 y hy) (by unfold maxLen; omega), fun y hy => Nat.le_trans (r6 y hy) (by unfold maxLen; omega)⟩
set_option maxRecDepth 100000 in
theorem read_scs {v : Value} {d : DataW H} {p : List MemPlace} {r : Reach} {b0 : Nat} (hv : Value.okWide Tryz.prog W r b0 22 v) (h : DataW.Trod enc Tryz.prog W base spare held 22 v d p) :
    ∃ (A : Option Addr) (c : Nat) (l : List Scn), v = .slice A l.length c ∧ RecIn scR W W.heap.size A l ∧ l.length ≤ c ∧ c ≤ maxLen := by
  obtain ⟨A, n, c, rfl⟩ := okWide_slice Tryz.underlying22 hv
  obtain ⟨fuel, hf⟩ := h
  have : Inhabited Scn := ⟨⟨0, 0, 0⟩⟩
  obtain ⟨A', c', l, hcs, h1, h2, h3, h4⟩ := read_row scOk Tryz.underlying22 cells72 (fun _ => True) (fun f c y hy => trod_scn hy) hf
  simp [Value.cells] at hcs
  obtain ⟨rfl, rfl, rfl⟩ := hcs
  exact ⟨A, c, l, rfl, h1, h2, h3⟩
set_option maxRecDepth 100000 in
theorem read_trks {v : Value} {d : DataW H} {p : List MemPlace} {r : Reach} {b0 : Nat} (hv : Value.okWide Tryz.prog W r b0 47 v) (h : DataW.Trod enc Tryz.prog W base spare held 47 v d p) :
    ∃ (A : Option Addr) (c : Nat) (l : List Trk), v = .slice A l.length c ∧ RecIn tkR W W.heap.size A l ∧ l.length ≤ c ∧ c ≤ maxLen ∧ ∀ t ∈ l, TrkIn W t := by
  obtain ⟨A, n, c, rfl⟩ := okWide_slice Tryz.underlying47 hv
  obtain ⟨fuel, hf⟩ := h
  have : Inhabited Trk := ⟨⟨ByteArray.empty, 0, 0, 0, 0, [], none, 0, false, [], none, 0, [], none, 0, [], none, 0⟩⟩
  obtain ⟨A', c', l, hcs, h1, h2, h3, h4⟩ := read_row tkOk Tryz.underlying47 cells64 (TrkIn W) (fun f c y hy => trod_trk hy) hf
  simp [Value.cells] at hcs
  obtain ⟨rfl, rfl, rfl⟩ := hcs
  exact ⟨A, c, l, rfl, h1, h2, h3, h4⟩
set_option maxRecDepth 100000 in
theorem read_keys {v : Value} {d : DataW H} {p : List MemPlace} {r : Reach} {b0 : Nat} (hv : Value.okWide Tryz.prog W r b0 41 v) (h : DataW.Trod enc Tryz.prog W base spare held 41 v d p) :
    ∃ (A : Option Addr) (c : Nat) (l : List Int), v = .slice A l.length c ∧ RecIn intR W W.heap.size A l ∧ l.length ≤ c ∧ c ≤ maxLen := by
  obtain ⟨A, n, c, rfl⟩ := okWide_slice Tryz.underlying41 hv
  obtain ⟨fuel, hf⟩ := h
  obtain ⟨A', c', l, hcs, h1, h2, h3, h4⟩ := trod_ints hf rfl
  simp [Value.cells] at hcs
  obtain ⟨rfl, rfl, rfl⟩ := hcs
  exact ⟨A, c, l, rfl, h1, h2, h3⟩
set_option maxRecDepth 100000 in
theorem read_proof {v : Value} {d : DataW H} {p : List MemPlace} {r : Reach} {b0 : Nat} (hv : Value.okWide Tryz.prog W r b0 49 v) (h : DataW.Trod enc Tryz.prog W base spare held 49 v d p) :
    ∃ (i : Int) (A : Option Addr) (c : Nat) (l : List Int), v = .agg #[.int .i64 i, .slice A l.length c] ∧ RecIn intR W W.heap.size A l ∧ l.length ≤ c ∧ c ≤ maxLen ∧ i ≤ 9223372036854775807 := by
  obtain ⟨cs, rfl, hsz⟩ := okWide_struct Tryz.underlying49 hv
  obtain ⟨fuel, hf0⟩ := h
  obtain ⟨xs, n, _, _, hl, hx, hf⟩ := DataW.trod_struct Tryz.underlying49 hf0
  obtain ⟨cs⟩ := cs
  simp only [Value.cells] at hl hf
  rw [cells49] at hl
  match cs, hl with
  | [c0, c1], _ =>
    have l4 : xs.length = 2 := hx
    match xs, l4 with
    | [y0, y1], _ =>
      have h0 := hf 0 _ rfl
      have h1 := hf 1 _ rfl
      simp only [List.getElem_toArray, List.getElem_cons_zero, List.getElem_cons_succ, cells3, cells41, List.drop_zero, List.drop_succ_cons, List.take_succ_cons, List.take_zero] at h0 h1
      obtain ⟨a, ha, wa⟩ := trod_one h0 rfl
      obtain ⟨A, c, l, hb, h2, h3, h4, _⟩ := trod_ints h1 rfl
      simp at ha hb
      exact ⟨a, A, c, l, by simp [ha, hb], h2, h3, h4, (bounds_i64 wa).2⟩
end
end Go.Proofs.YthkmpegpmpdhaaaGreatDoor
