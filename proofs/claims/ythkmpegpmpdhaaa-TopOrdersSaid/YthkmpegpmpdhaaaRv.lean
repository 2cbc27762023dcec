/- Part of the proofs of TopMoney and TopOrders. Conditions: as stated in each theorem. -/
import Derived.Test.YthkmpegpmpdhaaaRd
import Derived.Deep.CutRange
import Derived.StillTailTactics
import Derived.Lib.SliceRun
import Derived.RangeFuncRecord
import Derived.Carry
import Derived.ChangeKeysEq
import Derived.Shelf.SlSortCmp.Insertion1
import Derived.Shelf.Lay
import Derived.Ground.SlsfProg
import Derived.Sort.LotA
import Derived.Test.YthkmpegpmpdhaaaRows
import Derived.WalkKit
import Derived.WalkSpells
import Derived.WalkLawsBesides
import Derived.Laws.EntriesVeiled
import Derived.ProofKit
import Derived.OpenShut
import Derived.Lib.Hide
import Derived.BigQuiet
import Derived.Deep.QuietTactic
import Derived.Below
import Derived.Laws.OwnMore
import Derived.Deep.AppendLies
import Derived.Deep.Draws
import Derived.Laws.Rows
import Derived.Maps.AppendAt
import Derived.RegionTactic
import Derived.OwnWalk
import Derived.Deep.RegionHeld3
namespace Go.Proofs.Ythkmpegpmpdhaaa
open Go.Shelf Go.Sort Go.ChangeShapes Go.WideShapes Go.ChangeAt Go.RowKit
set_option linter.unusedSimpArgs false
set_option linter.unusedVariables false
/-- A test that may fail; what is known if it holds. -/
def TestPost (Q : Prop) (w : World) (e : Ending) (w' : World) : Prop := ∃ b, e = .returned (.bool b) ∧ Keeps w w' ∧ (b = true → Q)
theorem test_no {Q : Prop} {w w' : World} (hk : Keeps w w') : TestPost Q w (.returned (.bool false)) w' := ⟨false, rfl, hk, fun h => by cases h⟩
theorem test_yes {Q : Prop} {w w' : World} (h : Q) (hk : Keeps w w') : TestPost Q w (.returned (.bool true)) w' := ⟨true, rfl, hk, fun _ => h⟩
set_option maxRecDepth 100000 in
set_option maxHeartbeats 4000000 in
theorem few_any (d : List (List Int)) (dA eA : Option Addr) (N dc n ec : Nat) (w : World) (h : NumRows w w.heap.size dA d) (hN : Hid (N = d.length)) (hNm : N ≤ 9223372036854775807) (hnm : n ≤ 9223372036854775807) :
    Calls Try.prog 13 #[.slice dA N dc, .slice eA n ec, .int .i64 5, .int .i64 7] w (TestPost (N ≤ 5 ∧ n ≤ 7) w) := by
  have HD := Lib.hid h
  clear h
  by_cases h1 : 5 < N
  · have t1 : decide ((5 : Int) < (N : Int)) = true := by simp; omega
    have t1' : decide (5 < N) = true := by simp; omega
    go_enter Try.func13, Try.ntmps13
    go_wp2_with fail
    go_ret
    exact test_no (Keeps.refl _)
  have t1 : decide ((5 : Int) < (N : Int)) = false := by simp; omega
  have t1' : decide (5 < N) = false := by simp; omega
  by_cases h2 : 7 < n
  · have t2 : decide ((7 : Int) < (n : Int)) = true := by simp; omega
    have t2' : decide (7 < n) = true := by simp; omega
    go_enter Try.func13, Try.ntmps13
    go_wp2_with fail
    go_ret
    exact test_no (Keeps.refl _)
  have t2 : decide ((7 : Int) < (n : Int)) = false := by simp; omega
  have t2' : decide (7 < n) = false := by simp; omega
  go_enter Try.func13, Try.ntmps13
  go_wp2_with fail
  go_loopw [9] (fun c wr => CntR N w c wr) (fun c _ => N - (intOf c).toNat)
  case atStart => exact ⟨0, by omega, rfl, rfl⟩
  case round =>
    obtain ⟨i, hi, rfl, rfl⟩ := hrel
    by_cases hin : i < N
    · have hil : i < d.length := by have := hN.out; omega
      obtain ⟨r, hr⟩ : ∃ r, d[i]? = some r := ⟨_, List.getElem?_eq_getElem hil⟩
      obtain ⟨b, o, A', c', rfl, hb, c0, hnr⟩ := HD.out i r hr
      have ii : (i : Int) < (N : Int) := by omega
      have i0 : (0 : Int) ≤ (i : Int) := by omega
      have iw : IntKind.i64.wrap ((i : Int) + 1) = (i : Int) + 1 := wrap_in (by omega) (by omega)
      obtain ⟨q, hq⟩ : ∃ q, r.length = q := ⟨_, rfl⟩
      rw [hq] at c0
      clear hr hnr hq
      by_cases h5 : 5 < q
      · have t3 : decide ((5 : Int) < (q : Int)) = true := by simp; omega
        have t3' : decide (5 < q) = true := by simp; omega
        go_wp2_with fail
        go_ret
        exact test_no (Keeps.refl _)
      · have t3 : decide ((5 : Int) < (q : Int)) = false := by simp; omega
        have t3' : decide (5 < q) = false := by simp; omega
        go_wp2_with fail
        go_roundw
        case rel => first | exact ⟨i + 1, by omega, by go_num, rfl⟩ | ((repeat apply Exists.intro); refine ⟨?_, ?_⟩; rotate_left; rfl; exact ⟨i + 1, by omega, by go_num, rfl⟩)
        case measure => simp [intOf]; omega
    · go_wp2_with fail
      go_ret
      exact test_yes ⟨by omega, by omega⟩ (Keeps.refl _)
theorem refDist_is (d : List (List Int)) (dA : Option Addr) (N dc : Nat) (w : World) (h : NumRows w w.heap.size dA d) (hN : Hid (N = d.length)) (hNm : N ≤ 1000000) :
    Calls Try.prog 35 #[.slice dA N dc] w (TestPost (DistOk d) w) := refDist_any d dA N dc w h hN hNm
set_option maxRecDepth 100000 in
set_option maxHeartbeats 4000000 in
theorem valid_any (d : List (List Int)) (l : List EvC) (dA eA : Option Addr) (N dc n ec : Nat) (w : World) (h : NumRows w w.heap.size dA d) (hN : Hid (N = d.length)) (hNm : N ≤ 1000000) (he : RecIn evR w w.heap.size eA l) (hln : Hid (n = l.length)) (hn : n ≤ 15) :
    Calls Try.prog 14 #[.slice dA N dc, .slice eA n ec, .slice none 0 0] w (TestPost (DistOk d ∧ ∀ e ∈ l, isOff d e.1.o) w) := by
  have HD := Lib.hid h
  have HE := Lib.hid he
  have t1 : decide ((16 : Int) < (n : Int)) = false := by simp; omega
  have t1' : decide (16 < n) = false := by simp; omega
  clear h he
  go_enter Try.func14, Try.ntmps14
  go_upto_region 3 with (go_at_call 35; (with_reducible refine (refDist_is d dA N dc _ HD.out hN hNm).mono ?_); rintro e w1 ⟨b1, rfl, hk1, hb1⟩; have K1 := Lib.hid hk1; have B1 := Lib.hid hb1; clear hk1 hb1)
  rotate_left 1
  · go_ret
    exact test_no K1.out
  have hb : b1 = true := by assumption
  have HDO := Lib.hid (B1.out hb)
  clear B1
  subst hb
  go_wp2_with (at_make; refine wpList_makeR boOk (w0 := w1) rfl (.tmp 20) (.tmp 20) rfl false (.bool false) (by kernel_rfl) rfl n rfl rfl (by omega) (Keeps.refl _) ?_; intro w5 ho5 hg5; have K5 := Lib.hid (K1.out.trans ho5.2); clear ho5 hg5)
  go_loopw [8] (fun c wr => CntK n w (fun p => ∀ e, l[p]? = some e → isOff d e.1.o) c wr) (fun c _ => n - (intOf c).toNat)
  case atStart => exact ⟨0, by omega, rfl, K5.out, fun p hp => absurd hp (by omega)⟩
  case round =>
    clear K5 K1
    obtain ⟨k, hk, rfl, hK, hq⟩ := hrel
    have HQ := Lib.hid hq; have K := Lib.hid hK
    clear hq
    by_cases hkn : k < n
    · have hki : (k : Int) < (n : Int) := by omega
      have hk0 : (0 : Int) ≤ (k : Int) := by omega
      have hk01 : (0 : Int) ≤ (k : Int) ∧ (k : Int) < (n : Int) := ⟨hk0, hki⟩
      have hkw : IntKind.i64.wrap ((k : Int) + 1) = (k : Int) + 1 := wrap_in (by omega) (by omega)
      obtain ⟨⟨⟨o, lo, hi⟩, hA, hq, hc⟩, hx⟩ : ∃ x, l[k]? = some x := ⟨_, List.getElem?_eq_getElem (by rw [← hln.out]; exact hkn)⟩
      obtain ⟨eb, eo, rfl, heb, e0, -, -, -⟩ := (HE.out.keep hK).ev hx
      simp only at e0
      have HX := Lib.hid hx
      clear hx hK
      by_cases h1 : o < 0
      · have t3 : decide (o < 0) = true := by simpa using h1
        go_wp2_with fail
        go_ret
        exact test_no K.out
      · have t3 : decide (o < 0) = false := by simpa using h1
        by_cases h2 : (N : Int) ≤ o
        · have t4 : decide ((N : Int) ≤ o) = true := by simpa using h2
          go_wp2_with fail
          go_ret
          exact test_no K.out
        · have t4 : decide ((N : Int) ≤ o) = false := by simpa using h2
          have OK := Lib.hid (show ∀ e, l[k]? = some e → isOff d e.1.o from fun e he => by rw [HX.out] at he; cases he; exact ⟨by simp only; omega, by have := hN.out; simp only; omega⟩)
          go_wp2_with fail
          go_roundw
          case rel => first | exact ⟨k + 1, by omega, by go_num, K.out, cnt_next HQ.out OK.out⟩ | ((repeat apply Exists.intro); refine ⟨?_, ?_⟩; rotate_left; rfl; exact ⟨k + 1, by omega, by go_num, K.out, cnt_next HQ.out OK.out⟩)
          case measure => simp [intOf]; omega
    · have ALL := Lib.hid (show ∀ e ∈ l, isOff d e.1.o from fun e he => by
        obtain ⟨p, hp⟩ := List.getElem?_of_mem he
        exact HQ.out p (by have := (List.getElem?_eq_some_iff.1 hp).1; have := hln.out; omega) e hp)
      clear hK
      go_wp2_with fail
      go_loopw [9] (fun c wq => c = .int .i64 0 ∧ wq = wr) (fun _ _ => 0)
      case atStart => exact ⟨rfl, rfl⟩
      case round =>
        obtain ⟨rfl, rfl⟩ := hrel
        go_wp2_with fail
        go_ret
        exact test_yes ⟨HDO.out, ALL.out⟩ K.out
end Go.Proofs.Ythkmpegpmpdhaaa
