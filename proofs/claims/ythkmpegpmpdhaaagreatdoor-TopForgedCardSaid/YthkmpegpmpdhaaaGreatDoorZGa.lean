/- Part of the proof of TopOwnItem. Conditions: as stated in each theorem. -/
import Derived.Test.YthkmpegpmpdhaaaGreatDoorZFk
import Derived.Test.YthkmpegpmpdhaaaGreatDoorProg
import Derived.WalkMore
import Derived.Maps.OwnIn
import Derived.Deep.LoopGhost
import Derived.RangeFuncNested
import Derived.RangeFuncCalls
import Derived.RangeFuncLeaves
import Derived.RangeFuncWrites
import Derived.Shelf.Abstract
import Derived.Shelf.RegionOpen
import Derived.OwnWalkIn
import Derived.TacticsInMore
import Derived.LoopNIn
import Derived.LoopIn
import Derived.RangeFuncBound
import Derived.WalkKit
import Derived.WalkSpells
import Derived.WalkLawsBesides
import Derived.Laws.EntriesVeiled
import Derived.ProofKit
import Derived.OpenShut
import Derived.Lib.Hide
import Derived.BigQuiet
import Derived.Deep.QuietTactic
import Derived.Deep.CutRange
import Derived.StillTailTactics
import Derived.Lib.SliceRun
import Derived.RangeFuncRecord
import Derived.Carry
import Derived.ChangeKeysEq
import Derived.Below
import Derived.Laws.OwnMore
import Derived.Deep.AppendLies
import Derived.Deep.Draws
import Derived.Laws.Rows
import Derived.Maps.AppendAt
import Derived.RegionTactic
import Derived.OwnWalk
import Derived.Deep.RegionHeld3
namespace Go.Proofs.YthkmpegpmpdhaaaGreatDoor
open Go.Shelf Go.ChangeShapes Go.WideShapes Go.ChangeAt Go.RowKit
set_option linter.unusedSimpArgs false
set_option linter.unusedVariables false
def badSF (x : Scn) : Bool := decide (x.op < 0) || (decide (x.off < 0) || (decide (x.er < 0) || decide (10000 < x.er)))
abbrev scA (x : Scn) : Value := .agg #[.int .i64 x.op, .int .i64 x.off, .int .i64 x.er]
set_option maxRecDepth 100000 in
theorem badS83 (x : Scn) (w : World) : Calls Tryz.prog 83 #[scA x] w (BoolPost (badSF x) w) := by
  obtain ⟨op, off, er⟩ := x
  have K1 := Lib.hid ((Keeps.refl w).alloc (.cells #[.int .i64 op, .int .i64 off, .int .i64 er] 72))
  have e : badSF ⟨op, off, er⟩ = (decide (op < 0) || (decide (off < 0) || (decide (er < 0) || decide (10000 < er)))) := rfl
  rw [e]
  clear e
  by_cases h0 : op < 0
  · have d0 : decide (op < 0) = true := by simpa using h0
    rw [d0]
    go_enter Tryz.func83, Tryz.ntmps83
    go_wp2_with fail
    go_ret
    exact bool_post rfl K1.out
  · have d0 : decide (op < 0) = false := by simpa using h0
    rw [d0]
    by_cases h1 : off < 0
    · have d1 : decide (off < 0) = true := by simpa using h1
      rw [d1]
      go_enter Tryz.func83, Tryz.ntmps83
      go_wp2_with fail
      go_ret
      exact bool_post rfl K1.out
    · have d1 : decide (off < 0) = false := by simpa using h1
      rw [d1]
      by_cases h2 : er < 0
      · have d2 : decide (er < 0) = true := by simpa using h2
        rw [d2]
        go_enter Tryz.func83, Tryz.ntmps83
        go_wp2_with fail
        go_ret
        exact bool_post rfl K1.out
      · have d2 : decide (er < 0) = false := by simpa using h2
        rw [d2]
        by_cases h3 : 10000 < er
        · have d3 : decide (10000 < er) = true := by simpa using h3
          rw [d3]
          go_enter Tryz.func83, Tryz.ntmps83
          go_wp2_with fail
          go_ret
          exact bool_post rfl K1.out
        · have d3 : decide (10000 < er) = false := by simpa using h3
          rw [d3]
          go_enter Tryz.func83, Tryz.ntmps83
          go_wp2_with fail
          go_ret
          exact bool_post rfl K1.out
theorem any_take {α : Type} {f : α → Bool} {l : List α} {k : Nat} {x : α} (hx : l[k]? = some x) (h : (l.take k).any f = false) (hf : f x = false) : (l.take (k + 1)).any f = false := by
  rw [take_snoc' hx, List.any_append, h]; simp [hf]
theorem any_yes {α : Type} {f : α → Bool} {l : List α} {k : Nat} {x : α} (hx : l[k]? = some x) (hf : f x = true) : l.any f = true := by
  rw [List.any_eq_true]; exact ⟨x, List.mem_of_getElem? hx, hf⟩
set_option maxHeartbeats 1000000 in
set_option maxRecDepth 100000 in
theorem index137 (l : List Scn) (A : Option Addr) (n c : Nat) (w : World) (h : RecIn scR w w.heap.size A l) (hn : Hid (n = l.length)) (hnm : n ≤ 9223372036854775807) :
    Calls Tryz.prog 137 #[.slice A n c, .func (.func 83) #[] #[]] w (IdxPost (l.any badSF) w) := by
  have HD := Lib.hid h
  clear h
  obtain ⟨r, hr⟩ : ∃ r, l.any badSF = r := ⟨_, rfl⟩
  have HR := Lib.hid hr
  rw [hr]
  clear hr
  go_enter Tryz.func137, Tryz.ntmps137
  go_wp2_with fail
  go_loopw [8, 5] (fun i z wx => ∃ k : Nat, k ≤ n ∧ i = .int .i64 (k : Int) ∧ Keeps w wx ∧ (l.take k).any badSF = false) (fun i _ _ => n - (intOf i).toNat)
  case atStart => exact ⟨0, by omega, rfl, Keeps.refl w, by simp⟩
  case round =>
    obtain ⟨k, hk, rfl, hK, hall⟩ := hrel
    have HALL := Lib.hid hall
    have HK := Lib.hid hK
    clear hall hK
    have hnl := hn.out
    by_cases hkn : k < n
    · obtain ⟨x, hx⟩ : ∃ x, l[k]? = some x := ⟨_, List.getElem?_eq_getElem (by omega)⟩
      have HX := Lib.hid hx
      obtain ⟨b, o, rfl, hb, c0, c1, c2⟩ := (HD.out.keep HK.out).sc hx
      have kn : (k : Int) < (n : Int) := by omega
      have k0 : (0 : Int) ≤ (k : Int) := by omega
      have kw : IntKind.i64.wrap ((k : Int) + 1) = (k : Int) + 1 := wrap_in (by omega) (by omega)
      have HC := Lib.hid (badS83 x wr)
      obtain ⟨q, hq⟩ : ∃ q, badSF x = q := ⟨_, rfl⟩
      have HQ := Lib.hid hq
      rw [hq] at HC
      obtain ⟨op, off, er⟩ := x
      replace HC := Lib.hid (show Calls Tryz.prog 83 #[.agg #[.int .i64 op, .int .i64 off, .int .i64 er]] wr (BoolPost q wr) from HC.out)
      clear hx hnl hq
      cases q
      · go_wp2_with (go_at_call 83; (with_reducible refine HC.out.mono ?_); rintro e w' ⟨rfl, hk'⟩; have HK2 := Lib.hid (HK.out.trans hk'); clear hk')
        go_roundw
        case rel => exact ⟨k + 1, by omega, by go_num, HK2.out, any_take HX.out HALL.out HQ.out⟩
        case measure => simp [intOf]; omega
      · have HF := Lib.hid (show r = true by rw [← HR.out]; exact any_yes HX.out HQ.out)
        go_wp2_with (go_at_call 83; (with_reducible refine HC.out.mono ?_); rintro e w' ⟨rfl, hk'⟩; have HK2 := Lib.hid (HK.out.trans hk'); clear hk')
        go_ret
        exact idx_post (by rw [HF.out]; simp) (by omega) (by omega) HK2.out
    · have e : l.take k = l := List.take_of_length_le (by omega)
      rw [e] at HALL
      have HF := Lib.hid (show r = false by rw [← HR.out]; exact HALL.out)
      have hkn' : ¬ ((k : Int) < (n : Int)) := by omega
      clear hnl e
      go_wp2_with fail
      go_ret
      exact idx_post (by rw [HF.out]; rfl) (by omega) (by omega) HK.out
theorem contains82 (l : List Scn) (A : Option Addr) (n c : Nat) (w : World) (h : RecIn scR w w.heap.size A l) (hn : Hid (n = l.length)) (hnm : n ≤ 9223372036854775807) :
    Calls Tryz.prog 82 #[.slice A n c, .func (.func 83) #[] #[]] w (BoolPost (l.any badSF) w) := by
  have HC := Lib.hid (index137 l A n c w h hn hnm)
  generalize l.any badSF = q at HC ⊢
  clear h
  go_enter Tryz.func82, Tryz.ntmps82
  go_wp2_with (go_at_call 137; (with_reducible refine HC.out.mono ?_); rintro e w' ⟨I, h1, h2, h3, rfl, hk⟩; have H1 := Lib.hid h1; have HK := Lib.hid hk; clear h1 hk)
  go_ret
  exact bool_post H1.out.symm HK.out
def scannersF (l : List Scn) : Bool := decide (l.length ≤ 24) && !l.any badSF
theorem scanners34 (l : List Scn) (A : Option Addr) (n c : Nat) (w : World) (h : RecIn scR w w.heap.size A l) (hn : Hid (n = l.length)) (hnm : n ≤ 9223372036854775807) :
    Calls Tryz.prog 34 #[.slice A n c] w (BoolPost (scannersF l) w) := by
  have HC := Lib.hid (contains82 l A n c w h hn hnm)
  have e : scannersF l = (decide (n ≤ 24) && !l.any badSF) := by rw [hn.out]; rfl
  rw [e]
  generalize l.any badSF = q at HC ⊢
  clear h e
  by_cases h1 : 24 < n
  · have d1 : (24 : Int) < (n : Int) := by omega
    rw [decide_eq_false (by omega : ¬ n ≤ 24)]
    go_enter Tryz.func34, Tryz.ntmps34
    go_wp2_with fail
    go_ret
    exact bool_post rfl (Keeps.refl w)
  · have d1 : decide ((24 : Int) < (n : Int)) = false := by simp; omega
    have d2 : decide (24 < n) = false := by simp; omega
    rw [decide_eq_true (by omega : n ≤ 24)]
    go_enter Tryz.func34, Tryz.ntmps34
    go_wp2_with (go_at_call 82; (with_reducible refine HC.out.mono ?_); rintro e w' ⟨rfl, hk⟩; have HK := Lib.hid hk; clear hk)
    go_ret
    exact bool_post rfl HK.out
end Go.Proofs.YthkmpegpmpdhaaaGreatDoor
