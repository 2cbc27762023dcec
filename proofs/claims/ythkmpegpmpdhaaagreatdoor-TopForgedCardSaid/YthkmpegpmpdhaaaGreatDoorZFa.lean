/- Part of the proof of TopForged. Conditions: as stated in each theorem. -/
import Derived.Test.YthkmpegpmpdhaaaGreatDoorZU
import Derived.Test.YthkmpegpmpdhaaaGreatDoorProg
import Derived.WalkMore
import Derived.Maps.OwnIn
import Derived.Deep.LoopGhost
import Derived.RangeFuncNested
import Derived.RangeFuncCalls
import Derived.RangeFuncLeaves
import Derived.RangeFuncWrites
import Derived.Shelf.Abstract
import Derived.Shelf.RegionOpen
import Derived.OwnWalkIn
import Derived.TacticsInMore
import Derived.LoopNIn
import Derived.LoopIn
import Derived.RangeFuncBound
import Derived.WalkKit
import Derived.WalkSpells
import Derived.WalkLawsBesides
import Derived.Laws.EntriesVeiled
import Derived.ProofKit
import Derived.OpenShut
import Derived.Lib.Hide
import Derived.BigQuiet
import Derived.Deep.QuietTactic
import Derived.Deep.CutRange
import Derived.StillTailTactics
import Derived.Lib.SliceRun
import Derived.RangeFuncRecord
import Derived.Carry
import Derived.ChangeKeysEq
import Derived.Below
import Derived.Laws.OwnMore
import Derived.Deep.AppendLies
import Derived.Deep.Draws
import Derived.Laws.Rows
import Derived.Maps.AppendAt
import Derived.RegionTactic
import Derived.OwnWalk
import Derived.Deep.RegionHeld3
namespace Go.Proofs.YthkmpegpmpdhaaaGreatDoor
section
open Go.Shelf Go.ChangeShapes Go.WideShapes Go.ChangeAt Go.RowKit
set_option linter.unusedSimpArgs false
set_option linter.unusedVariables false
theorem mod104 (w : World) : Calls Tryz.prog 104 #[] w fun e w' => e = .returned (.int .i64 2147483647) ∧ w = w' := by
  go_enter Tryz.func104, Tryz.ntmps104
  go_wp2
  go_ret
  exact ⟨rfl, rfl⟩
set_option maxHeartbeats 1000000 in
set_option maxRecDepth 100000 in
theorem ints54 (a b : List Int) (A B : Option Addr) (n m c c' : Nat) (w : World) (ha : RecIn intR w w.heap.size A a) (hb : RecIn intR w w.heap.size B b) (hn : Hid (n = a.length)) (hm : Hid (m = b.length)) (hnx : n ≤ 9223372036854775807) :
    Calls Tryz.prog 54 #[.slice A n c, .slice B m c'] w (BoolPost (decide (a = b)) w) := by
  have HA := Lib.hid ha; have HB := Lib.hid hb
  clear ha hb
  obtain ⟨r, hr⟩ : ∃ r, decide (a = b) = r := ⟨_, rfl⟩
  have HR := Lib.hid hr
  rw [hr]
  clear hr
  by_cases hnm : n = m
  · subst hnm
    go_enter Tryz.func54, Tryz.ntmps54
    go_wp2
    go_loopw [5] (fun i wx => ∃ k : Nat, k ≤ n ∧ i = .int .i64 (k : Int) ∧ Keeps w wx ∧ a.take k = b.take k) (fun i _ => n - (intOf i).toNat)
    case atStart => exact ⟨0, by omega, rfl, Keeps.refl w, rfl⟩
    case round =>
      obtain ⟨k, hk, rfl, hK, ht⟩ := hrel
      have HK := Lib.hid hK; have HT := Lib.hid ht
      clear hK ht
      have hna := hn.out
      have hmb := hm.out
      by_cases hkn : k < n
      · obtain ⟨x, hx⟩ : ∃ x, a[k]? = some x := ⟨_, List.getElem?_eq_getElem (by omega)⟩
        obtain ⟨y, hy⟩ : ∃ y, b[k]? = some y := ⟨_, List.getElem?_eq_getElem (by omega)⟩
        obtain ⟨ab, ao, rfl, hab, c0⟩ := (HA.out.keep HK.out).int hx
        obtain ⟨bb, bo, rfl, hbb, c1⟩ := (HB.out.keep HK.out).int hy
        have TX := Lib.hid (take_snoc' hx)
        have TY := Lib.hid (take_snoc' hy)
        have HX := Lib.hid hx; have HY := Lib.hid hy
        have kn : (k : Int) < (n : Int) := by omega
        have k0 : (0 : Int) ≤ (k : Int) := by omega
        have kw : IntKind.i64.wrap ((k : Int) + 1) = (k : Int) + 1 := wrap_in (by omega) (by omega)
        clear hx hy hna hmb
        by_cases hxy : x = y
        · subst hxy
          go_upto_region 6 with fail
          go_quiet (fail)
          go_wp2_with fail
          go_roundw
          case rel => exact ⟨k + 1, by omega, by go_num, HK.out.trans ((Keeps.refl wr).drewN _), by rw [TX.out, TY.out, HT.out]⟩
          case measure => simp [intOf]; omega
        · have d1 : (x == y) = false := by simpa using hxy
          have d2 : (x != y) = true := by simpa using hxy
          have d3 : decide (x = y) = false := by simpa using hxy
          have HF := Lib.hid (show r = false by
            rw [← HR.out]
            have : ¬ a = b := fun e => hxy (by have h1 := HX.out; rw [e, HY.out] at h1; exact (Option.some.inj h1).symm)
            simpa using this)
          go_upto_region 6 with fail
          go_quiet (fail)
          go_wp2_with fail
          go_ret
          exact ⟨by rw [HF.out]; rfl, HK.out.trans ((Keeps.refl wr).drewN _)⟩
      · have e : a = b := by
          have := HT.out
          rwa [List.take_of_length_le (by omega), List.take_of_length_le (by omega)] at this
        have HF := Lib.hid (show r = true by rw [← HR.out]; simpa using e)
        have hkn' : ¬ ((k : Int) < (n : Int)) := by omega
        clear hna hmb e
        go_wp2_with fail
        go_ret
        exact ⟨by rw [HF.out]; rfl, HK.out⟩
  · have d1 : (n == m) = false := by simpa using hnm
    have d2 : ((n : Int) == (m : Int)) = false := by simp; omega
    have d3 : decide ((n : Int) = (m : Int)) = false := by simp; omega
    have HF := Lib.hid (show r = false by
      rw [← HR.out]
      have : ¬ a = b := fun e => hnm (by rw [hn.out, hm.out, e])
      simpa using this)
    go_enter Tryz.func54, Tryz.ntmps54
    go_wp2_with fail
    go_ret
    exact ⟨by rw [HF.out]; rfl, Keeps.refl w⟩
set_option maxRecDepth 100000 in
set_option maxHeartbeats 4000000 in
theorem sum55 (l : List Int) (A : Option Addr) (n c : Nat) (w : World) (h : RecIn intR w w.heap.size A l) (hn : Hid (n = l.length)) (hnm : n ≤ 9223372036854775807) :
    Calls Tryz.prog 55 #[.slice A n c] w fun e w' => e = .returned (.int .i64 (dgF l)) ∧ Keeps w w' := by
  have HD := Lib.hid h
  clear h
  unfold dgF
  go_enter Tryz.func55, Tryz.ntmps55
  go_wp2_with fail
  go_loopw [3, 4, 5] (fun a b z wr => ∃ i : Nat, i ≤ n ∧ a = .int .i64 ((l.take i).foldl dgS 7) ∧ b = .int .i64 (i : Int) ∧ Keeps w wr) (fun _ b _ _ => n - (intOf b).toNat)
  case atStart => exact ⟨0, by omega, rfl, rfl, Keeps.refl w⟩
  case round =>
    obtain ⟨i, hi, rfl, rfl, hK⟩ := hrel
    have HK := Lib.hid hK
    clear hK
    have hnl := hn.out
    have hb := dgF_in (l.take i) 7 (by omega) (by omega)
    by_cases hin : i < n
    · obtain ⟨x, hx⟩ : ∃ x, l[i]? = some x := ⟨_, List.getElem?_eq_getElem (by omega)⟩
      have hs := Lib.hid (foldl_snoc dgS 7 hx)
      obtain ⟨b, o, rfl, hbl, c0⟩ := (HD.out.keep HK.out).int hx
      generalize (l.take i).foldl dgS 7 = H at *
      have ii : (i : Int) < (n : Int) := by omega
      have i0 : (0 : Int) ≤ (i : Int) := by omega
      have iw : IntKind.i64.wrap ((i : Int) + 1) = (i : Int) + 1 := wrap_in (by omega) (by omega)
      have hb0 := hb.1
      have hb1 := hb.2
      have tm := tmod_in x
      have tm0 := tm.1
      have tm1 := tm.2
      have TP := Lib.hid (fun h => tmod_pos (x := x) h)
      have TN := Lib.hid (fun h => tmod_neg (x := x) h)
      clear hx hb tm
      have hil : i < l.length := by omega
      clear hnl
      go_upto_region 5 with fail
      have SOF := Lib.hid (show ∀ X, Keeps wr X → (fun w' => w'.cell? ⟨b, o + i, none⟩ = some (.int .i64 x) ∧ Keeps wr w') X from fun X hX => ⟨cell_keep c0 hX, hX⟩)
      clear c0
      go_region_held3 (fun w' => w'.cell? ⟨b, o + i, none⟩ = some (.int .i64 x) ∧ Keeps wr w') ((refine SOF.out _ ?_; (first | exact Keeps.refl _ | exact (Keeps.refl _).drew | assumption))) ((go_at_call 104; (with_reducible refine (mod104 _).mono ?_); rintro e w2 ⟨rfl, rfl⟩))
      rename_i hH
      have GH := Lib.hid (HK.out.trans hH.2)
      clear hH SOF
      by_cases hg : x.tmod 2147483647 < 0
      · have d1 : decide (x.tmod 2147483647 < 0) = true := by simpa using hg
        have e1 := TN.out hg
        have b1 : 0 ≤ x.tmod 2147483647 + 2147483647 := by omega
        have b2 : x.tmod 2147483647 + 2147483647 < 2147483647 := by omega
        have E1 := Lib.hid e1
        clear e1 TP TN
        go_wp2_with (go_at_call 104; (with_reducible refine (mod104 _).mono ?_); rintro e w' ⟨rfl, rfl⟩)
        go_roundw
        case rel => exact ⟨i + 1, by omega, by rw [hs.out, dgS, ← E1.out], by go_num, GH.out⟩
        case measure => simp [intOf]; omega
      · have d1 : decide (x.tmod 2147483647 < 0) = false := by simpa using hg
        have e1 := TP.out (by omega)
        have b1 : 0 ≤ x.tmod 2147483647 := by omega
        have E1 := Lib.hid e1
        clear e1 TP TN
        go_wp2_with (go_at_call 104; (with_reducible refine (mod104 _).mono ?_); rintro e w' ⟨rfl, rfl⟩)
        go_roundw
        case rel => exact ⟨i + 1, by omega, by rw [hs.out, dgS, ← E1.out], by go_num, GH.out⟩
        case measure => simp [intOf]; omega
    · have e : l.take i = l := List.take_of_length_le (by omega)
      rw [e]
      clear hnl hb
      go_wp2_with fail
      go_ret
      exact ⟨rfl, HK.out⟩
/-- Two different rows with one digest. -/
def HitC (rows : List Rw) (i k : Nat) : Prop := ∃ x y, rows[i]? = some x ∧ rows[k]? = some y ∧ x.l ≠ y.l ∧ dgF x.l = dgF y.l
def CollF (rows : List Rw) : Prop := ∃ i k, k < i ∧ HitC rows i k
set_option maxHeartbeats 2000000 in
set_option maxRecDepth 100000 in
theorem collide22 (rows : List Rw) (A : Option Addr) (n c : Nat) (w : World) (hr : RecIn rwR w w.heap.size A rows) (hn : Hid (n = rows.length)) (hrk : ∀ r ∈ rows, RecIn intR w w.heap.size r.A r.l) (hrl : ∀ r ∈ rows, r.l.length ≤ 1000000) (hnx : n ≤ 1000000) (hcl : CollF rows) :
    Calls Tryz.prog 22 #[.slice A n c] w (BoolPost true w) := by
  have HR := Lib.hid hr; have HRK := Lib.hid hrk; have HRL := Lib.hid hrl; have HCL := Lib.hid hcl
  clear hr hrk hrl hcl
  go_enter Tryz.func22, Tryz.ntmps22
  go_wp2
  go_loopw [3, 4] (fun i z wx => ∃ k : Nat, k ≤ n ∧ i = .int .i64 (k : Int) ∧ Keeps w wx ∧ ∀ i' k', k' < i' → i' < k → ¬ HitC rows i' k') (fun i z _ => n - (intOf i).toNat)
  case atStart => exact ⟨0, by omega, rfl, Keeps.refl w, fun i' k' _ h => by omega⟩
  case round =>
    obtain ⟨i, hi, rfl, hK, hno⟩ := hrel
    have HK := Lib.hid hK; have HNO := Lib.hid hno
    clear hK hno
    have hnl := hn.out
    by_cases hin : i < n
    · obtain ⟨x, hx⟩ : ∃ x, rows[i]? = some x := ⟨_, List.getElem?_eq_getElem (by omega)⟩
      have HX := Lib.hid hx
      have ii : (i : Int) < (n : Int) := by omega
      have i0 : (0 : Int) ≤ (i : Int) := by omega
      have iw : IntKind.i64.wrap ((i : Int) + 1) = (i : Int) + 1 := wrap_in (by omega) (by omega)
      clear hx hnl
      go_wp2_with fail
      generalize hwz : wr = wz at *
      clear hwz
      go_loopw [4] (fun z wx => ∃ k : Nat, k ≤ i ∧ z = .int .i64 (k : Int) ∧ Keeps wz wx ∧ ∀ k', k' < k → ¬ HitC rows i k') (fun z _ => i - (intOf z).toNat)
      case atStart => exact ⟨0, by omega, rfl, Keeps.refl wz, fun k' h => by omega⟩
      case round =>
        obtain ⟨k, hk, rfl, hK2, hno2⟩ := hrel
        have HK2 := Lib.hid hK2; have HNO2 := Lib.hid hno2
        clear hK2 hno2
        have hnl := hn.out
        by_cases hki : k < i
        · obtain ⟨y, hy⟩ : ∃ y, rows[k]? = some y := ⟨_, List.getElem?_eq_getElem (by omega)⟩
          have HY := Lib.hid hy
          have KR := HK.out.trans HK2.out
          have RX := (HRK.out x (List.mem_of_getElem? HX.out)).keep KR
          have RY := (HRK.out y (List.mem_of_getElem? hy)).keep KR
          have lx := HRL.out x (List.mem_of_getElem? HX.out)
          have ly := HRL.out y (List.mem_of_getElem? hy)
          obtain ⟨b, o, e1, hb, c0⟩ := (HR.out.keep KR).rw_ HX.out
          obtain ⟨b2, o2, e2, hb2, c1⟩ := (HR.out.keep KR).rw_ hy
          rw [e1] at e2
          injection e2 with e2
          injection e2 with e3 e4
          subst e3 e4 e1
          obtain ⟨xl, xA, xc⟩ := x
          obtain ⟨yl, yA, yc⟩ := y
          simp only at c0 c1 RX RY lx ly
          obtain ⟨p, hp⟩ : ∃ p, xl.length = p := ⟨_, rfl⟩
          obtain ⟨q, hq⟩ : ∃ q, yl.length = q := ⟨_, rfl⟩
          rw [hp] at c0 lx
          rw [hq] at c1 ly
          have HP := Lib.hid hp.symm; have HQ := Lib.hid hq.symm
          have ki : (k : Int) < (i : Int) := by omega
          have kn : (k : Int) < (n : Int) := by omega
          have knn : k < n := by omega
          have k0 : (0 : Int) ≤ (k : Int) := by omega
          have kw : IntKind.i64.wrap ((k : Int) + 1) = (k : Int) + 1 := wrap_in (by omega) (by omega)
          have SOF := Lib.hid (show ∀ X, Keeps wr X → (fun w' => w'.cell? ⟨b, o + i, none⟩ = some (.slice xA p xc) ∧ w'.cell? ⟨b, o + k, none⟩ = some (.slice yA q yc) ∧ Keeps wr w') X from fun X hX => ⟨cell_keep c0 hX, cell_keep c1 hX, hX⟩)
          have HS1 := Lib.hid (fun X (hX : Keeps wr X) => sum55 xl xA p xc X (RX.keep hX) HP (by omega))
          have HS2 := Lib.hid (fun X (hX : Keeps wr X) => sum55 yl yA q yc X (RY.keep hX) HQ (by omega))
          have HC := fun X (hX : Keeps wr X) => ints54 xl yl xA yA p q xc yc X (RX.keep hX) (RY.keep hX) HP HQ (by omega)
          clear hy hp hq hnl
          by_cases hxy : xl = yl
          · rw [decide_eq_true hxy] at HC
            have HCT := Lib.hid HC
            clear HC RX RY
            go_upto_region 7 with fail
            have a0 := After.cell c0 hb
            have a1 := After.cell c1 hb
            clear c0 c1 SOF HS1 HS2
            refine wp_region_after (by kernel_rfl) (by kernel_rfl) ?_
            repeat (go_big_quiet_step ((go_at_call 54; with_reducible exact after_call (HCT.out _ (After.ok _)))))
            refine wpQuiet_nil ?_
            intro _ hw'
            obtain ⟨⟨W1, hk1⟩, rfl⟩ := hw'
            have GH := Lib.hid (HK2.out.trans hk1)
            clear HCT a0 a1
            go_wp2_with fail
            go_roundw
            case rel =>
              refine ⟨k + 1, by omega, by go_num, GH.out, fun k' hk' => ?_⟩
              by_cases e : k' = k
              · subst e
                rintro ⟨u, v, hu, hv, hne, _⟩
                rw [HX.out] at hu
                rw [HY.out] at hv
                cases hu; cases hv
                exact hne hxy
              · exact HNO2.out k' (by omega)
            case measure => simp [intOf]; omega
          · rw [decide_eq_false hxy] at HC
            have HCT := Lib.hid HC
            clear HC RX RY c0 c1
            obtain ⟨s1, hs1⟩ : ∃ s, dgF xl = s := ⟨_, rfl⟩
            obtain ⟨s2, hs2⟩ : ∃ s, dgF yl = s := ⟨_, rfl⟩
            have E1 := Lib.hid hs1; have E2 := Lib.hid hs2
            rw [hs1] at HS1
            rw [hs2] at HS2
            clear hs1 hs2
            by_cases hss : s1 = s2
            · subst hss
              go_upto_region 7 with fail
              go_region_held3 (fun w' => w'.cell? ⟨b, o + i, none⟩ = some (.slice xA p xc) ∧ w'.cell? ⟨b, o + k, none⟩ = some (.slice yA q yc) ∧ Keeps wr w') ((refine SOF.out _ ?_; (first | exact Keeps.refl _ | exact (Keeps.refl _).drew | assumption))) ((first | (go_at_call 54; (with_reducible refine (HCT.out wr.drew (Keeps.refl _).drew).mono ?_); rintro e w4 ⟨rfl, hk4'⟩; have hk4 : Keeps wr w4 := ((Keeps.refl wr).drew).trans hk4'; clear hk4') | (go_at_call 55; (with_reducible refine (HS1.out w4 hk4).mono ?_); rintro e w5 ⟨rfl, hk5'⟩; have hk5 : Keeps wr w5 := hk4.trans hk5'; clear hk5') | (go_at_call 55; (with_reducible refine (HS2.out w5 hk5).mono ?_); rintro e w6 ⟨rfl, hk6'⟩; have hk6 : Keeps wr w6 := hk5.trans hk6'; clear hk6')))
              rename_i hH
              have GH := Lib.hid (HK.out.trans (HK2.out.trans hH.2.2))
              clear hH SOF HS1 HS2 HCT
              go_wp2_with fail
              go_ret
              exact ⟨rfl, GH.out⟩
            · have d1 : (s1 == s2) = false := by simpa using hss
              have d2 : decide (s1 = s2) = false := by simpa using hss
              go_upto_region 7 with fail
              go_region_held3 (fun w' => w'.cell? ⟨b, o + i, none⟩ = some (.slice xA p xc) ∧ w'.cell? ⟨b, o + k, none⟩ = some (.slice yA q yc) ∧ Keeps wr w') ((refine SOF.out _ ?_; (first | exact Keeps.refl _ | exact (Keeps.refl _).drew | assumption))) ((first | (go_at_call 54; (with_reducible refine (HCT.out wr.drew (Keeps.refl _).drew).mono ?_); rintro e w4 ⟨rfl, hk4'⟩; have hk4 : Keeps wr w4 := ((Keeps.refl wr).drew).trans hk4'; clear hk4') | (go_at_call 55; (with_reducible refine (HS1.out w4 hk4).mono ?_); rintro e w5 ⟨rfl, hk5'⟩; have hk5 : Keeps wr w5 := hk4.trans hk5'; clear hk5') | (go_at_call 55; (with_reducible refine (HS2.out w5 hk5).mono ?_); rintro e w6 ⟨rfl, hk6'⟩; have hk6 : Keeps wr w6 := hk5.trans hk6'; clear hk6')))
              rename_i hH
              have GH := Lib.hid (HK2.out.trans hH.2.2)
              clear hH SOF HS1 HS2 HCT
              go_wp2_with fail
              go_roundw
              case rel =>
                refine ⟨k + 1, by omega, by go_num, GH.out, fun k' hk' => ?_⟩
                by_cases e : k' = k
                · subst e
                  rintro ⟨u, v, hu, hv, _, he⟩
                  rw [HX.out] at hu
                  rw [HY.out] at hv
                  cases hu; cases hv
                  exact hss (by rw [← E1.out, ← E2.out]; exact he)
                · exact HNO2.out k' (by omega)
              case measure => simp [intOf]; omega
        · obtain rfl : k = i := by omega
          clear hnl
          go_wp2_with fail
          go_roundw
          case rel =>
            refine ⟨k + 1, by omega, by go_num, HK.out.trans HK2.out, fun i' k' h1 h2 => ?_⟩
            by_cases e : i' = k
            · subst e
              exact HNO2.out k' h1
            · exact HNO.out i' k' h1 (by omega)
          case measure => simp [intOf]; omega
    · exfalso
      obtain ⟨i', k', h1, h2⟩ := HCL.out
      refine HNO.out i' k' h1 ?_ h2
      obtain ⟨x, y, hx, _⟩ := h2
      have := (List.getElem?_eq_some_iff.1 hx).1
      omega
theorem rem33 (x : Int) (w : World) : Calls Tryz.prog 33 #[.int .i64 x] w fun e w' => e = .returned (.bool (decide (0 ≤ x ∧ x < 2147483647))) ∧ w = w' := by
  by_cases h0 : 0 ≤ x
  · by_cases h1 : x ≤ 2147483646
    · rw [decide_eq_true (show 0 ≤ x ∧ x < 2147483647 by omega)]
      go_enter Tryz.func33, Tryz.ntmps33
      go_wp2_with fail
      go_ret
      exact ⟨rfl, rfl⟩
    · rw [decide_eq_false (show ¬ (0 ≤ x ∧ x < 2147483647) by omega)]
      have d1 : decide (x ≤ 2147483646) = false := by simpa using h1
      go_enter Tryz.func33, Tryz.ntmps33
      go_wp2_with fail
      go_ret
      exact ⟨rfl, rfl⟩
  · rw [decide_eq_false (show ¬ (0 ≤ x ∧ x < 2147483647) by omega)]
    have d1 : decide (0 ≤ x) = false := by simpa using h0
    go_enter Tryz.func33, Tryz.ntmps33
    go_wp2_with fail
    go_ret
    exact ⟨rfl, rfl⟩
/-- Keys are remainders, one to six of them. -/
def KeysOk (l : List Int) : Prop := (∀ x ∈ l, 0 ≤ x ∧ x < 2147483647) ∧ 1 ≤ l.length ∧ l.length ≤ 6
def KeysPost (l : List Int) (w : World) (e : Ending) (w' : World) : Prop := (∃ b, e = .returned (.bool b) ∧ (b = true ↔ KeysOk l)) ∧ w = w'
set_option maxHeartbeats 1000000 in
set_option maxRecDepth 100000 in
theorem keys16 (l : List Int) (A : Option Addr) (n c : Nat) (w : World) (h : RecIn intR w w.heap.size A l) (hn : Hid (n = l.length)) (hnm : n ≤ 9223372036854775807) :
    Calls Tryz.prog 16 #[.slice A n c] w (KeysPost l w) := by
  have HD := Lib.hid h
  clear h
  go_enter Tryz.func16, Tryz.ntmps16
  go_wp2
  go_loopw [3] (fun i wx => ∃ k : Nat, k ≤ n ∧ i = .int .i64 (k : Int) ∧ w = wx ∧ ∀ x ∈ l.take k, 0 ≤ x ∧ x < 2147483647) (fun i _ => n - (intOf i).toNat)
  case atStart => exact ⟨0, by omega, rfl, rfl, fun x hx => by simp at hx⟩
  case round =>
    obtain ⟨k, hk, rfl, rfl, hall⟩ := hrel
    have HALL := Lib.hid hall
    clear hall
    have hnl := hn.out
    by_cases hkn : k < n
    · obtain ⟨x, hx⟩ : ∃ x, l[k]? = some x := ⟨_, List.getElem?_eq_getElem (by omega)⟩
      have HTK := Lib.hid (take_snoc' hx)
      have HMM := Lib.hid (List.mem_of_getElem? hx)
      obtain ⟨b, o, rfl, hb, c0⟩ := HD.out.int hx
      have kn : (k : Int) < (n : Int) := by omega
      have k0 : (0 : Int) ≤ (k : Int) := by omega
      have kw : IntKind.i64.wrap ((k : Int) + 1) = (k : Int) + 1 := wrap_in (by omega) (by omega)
      have HC := rem33 x w
      clear hx hnl
      by_cases hx : 0 ≤ x ∧ x < 2147483647
      · rw [decide_eq_true hx] at HC
        have HCT := Lib.hid HC
        clear HC
        go_wp2_with (go_at_call 33; (with_reducible refine HCT.out.mono ?_); rintro e w4 ⟨rfl, rfl⟩)
        go_roundw
        case rel =>
          refine ⟨k + 1, by omega, by go_num, (by first | rfl | trivial), fun y hy => ?_⟩
          rw [HTK.out] at hy
          rcases List.mem_append.1 hy with hy | hy
          · exact HALL.out y hy
          · rw [List.mem_singleton] at hy
            subst hy
            exact hx
        case measure => simp [intOf]; omega
      · rw [decide_eq_false hx] at HC
        have HCT := Lib.hid HC
        clear HC
        go_wp2_with (go_at_call 33; (with_reducible refine HCT.out.mono ?_); rintro e w4 ⟨rfl, rfl⟩)
        go_ret
        exact ⟨⟨false, rfl, fun e => (by cases e), fun h => absurd (h.1 x HMM.out) hx⟩, rfl⟩
    · have hall2 : l.take k = l := List.take_of_length_le (by omega)
      rw [hall2] at HALL
      have hkn' : ¬ ((k : Int) < (n : Int)) := by omega
      clear hall2 hnl
      by_cases h1 : 1 ≤ n
      · have d1 : (1 : Int) ≤ (n : Int) := by omega
        by_cases h6 : n ≤ 6
        · have d6 : (n : Int) ≤ 6 := by omega
          go_wp2_with fail
          go_ret
          exact ⟨⟨true, rfl, fun _ => ⟨HALL.out, by rw [← hn.out]; exact h1, by rw [← hn.out]; exact h6⟩, fun _ => rfl⟩, rfl⟩
        · have d6 : decide ((n : Int) ≤ 6) = false := by simp; omega
          have d6' : decide (n ≤ 6) = false := by simp; omega
          go_wp2_with fail
          go_ret
          exact ⟨⟨false, rfl, fun e => (by cases e), fun h => absurd h.2.2 (by rw [← hn.out]; exact h6)⟩, rfl⟩
      · have d1 : decide ((1 : Int) ≤ (n : Int)) = false := by simp; omega
        have d1' : decide (1 ≤ n) = false := by simp; omega
        obtain rfl : n = 0 := by omega
        go_wp2_with fail
        go_ret
        exact ⟨⟨false, rfl, fun e => (by cases e), fun h => absurd h.2.1 (by rw [← hn.out]; omega)⟩, rfl⟩
set_option maxHeartbeats 1000000 in
set_option maxRecDepth 100000 in
theorem codes57 (s : ByteArray) (w : World) (hs : s.size ≤ 1000) :
    Calls Tryz.prog 57 #[.string s] w fun e w' => ∃ A n c, e = .returned (.slice A n c) ∧ OwnR intR w w' (.slice A n c) (codes s) := by
  have O0 := Lib.hid (OwnR.litN (R := intR) (fun _ => rfl) (Keeps.refl w) [] #[] rfl (by simp))
  go_enter Tryz.func57, Tryz.ntmps57
  go_wp2_with fail
  generalize hw2 : w.alloc (.cells #[] 3) = w2 at *
  clear hw2
  go_loopw [3, 4] (fun a b wr => ∃ (i : Nat) (A : Option Addr) (n c : Nat), i ≤ s.size ∧ a = .slice A n c ∧ b = .int .i64 (i : Int) ∧ OwnR intR w wr (.slice A n c) ((codes s).take i)) (fun _ b _ => s.size - (intOf b).toNat)
  case atStart => exact ⟨0, _, 0, 0, by omega, rfl, rfl, O0.out⟩
  case round =>
    clear O0
    obtain ⟨i, A, n, c, hi, rfl, rfl, hO⟩ := hrel
    by_cases hin : i < s.size
    · have bx1 : (s[i].toNat : Int) ≤ 255 := by have := s[i].toNat_lt; omega
      have hsn := Lib.hid (take_snoc' (codes_at s i hin))
      have ii : (i : Int) < (s.size : Int) := by omega
      have i0 : (0 : Int) ≤ (i : Int) := by omega
      have iw : IntKind.i64.wrap ((i : Int) + 1) = (i : Int) + 1 := wrap_in (by omega) (by omega)
      have LE := Lib.hid (show ((codes s).take i).length + [(s[i].toNat : Int)].length ≤ 1000000 by simp [codes_len]; omega)
      have ONE := Lib.hid (show (1 : Nat) = [(s[i].toNat : Int)].length from rfl)
      have O1 := Lib.hid (hO.keep ((Keeps.refl _).alloc (.cells #[.int .i64 (s[i].toNat : Int)] 3)))
      have X1 := Lib.hid (RecIn.lit intOk wr [(s[i].toNat : Int)] #[.int .i64 (s[i].toNat : Int)] rfl)
      clear hO
      go_wp2_with (at_builtin; refine wpList_appR intOk (w0 := w) rfl (.tmp 12) (.tmp 17) rfl _ ((codes s).take i) rfl O1.out _ _ _ [(s[i].toNat : Int)] rfl X1.out ONE LE ?_; intro A2 n2 c2 w3 ho2 hg2; clear hg2; have O2 := Lib.hid ho2; clear ho2 O1 X1)
      go_roundw
      case rel => exact ⟨i + 1, A2, n2, c2, by omega, rfl, by go_num, by rw [hsn.out]; exact O2.out⟩
      case measure => simp [intOf]; omega
    · have e : (codes s).take i = codes s := List.take_of_length_le (by rw [codes_len]; omega)
      rw [e] at hO
      have HO := Lib.hid hO
      clear hO e
      go_wp2_with fail
      go_ret
      exact ⟨A, n, c, rfl, HO.out⟩
theorem label58 (s : ByteArray) (w : World) (hs : s.size ≤ 1000) :
    Calls Tryz.prog 58 #[.string s] w fun e w' => e = .returned (.int .i64 (dgF (codes s))) ∧ Keeps w w' := by
  have HC := Lib.hid (codes57 s w hs)
  have LE := Lib.hid (show (codes s).length ≤ 1000 by rw [codes_len]; exact hs)
  go_enter Tryz.func58, Tryz.ntmps58
  go_wp2_with (first | (go_at_call 57; (with_reducible refine HC.out.mono ?_); rintro e w2 ⟨A, n, c, rfl, ho⟩; have HS := Lib.hid (sum55 (codes s) A n c w2 (ho.recs intOk).1 (Lib.hid (ho.recs intOk).2) (by have := (ho.recs intOk).2; have := LE.out; omega)); have K2 := Lib.hid ho.2; clear ho) | (go_at_call 55; (with_reducible refine HS.out.mono ?_); rintro e w3 ⟨rfl, hk3⟩; have K3 := Lib.hid hk3; clear hk3))
  go_ret
  exact ⟨rfl, K2.out.trans K3.out⟩
end
section
open Go.Shelf Go.ChangeShapes Go.WideShapes Go.ChangeAt Go.RowKit
set_option linter.unusedSimpArgs false
set_option linter.unusedVariables false
/-- A stop. -/
structure Stp where
  of_ : Int
  ar : Int
  de : Int
  li : Int
abbrev stR : RowTy Stp := { T := 192, S := 62, k := 4, by' := 32, enc := fun x => [.int .i64 x.of_, .int .i64 x.ar, .int .i64 x.de, .int .i64 x.li] }
theorem stOk : RowOk Tryz.prog stR := ⟨fun _ => rfl, fun x u hu => by simp at hu; rcases hu with rfl | rfl | rfl | rfl <;> rfl, Tryz.underlying62, info_of (z := .agg #[.int .i64 0, .int .i64 0, .int .i64 0, .int .i64 0]) (by kernel_rfl) rfl, by decide, by decide⟩
/-- A track, and where its headers lead. -/
structure Trk where
  pl : ByteArray
  pf : Int
  pt : Int
  pc : Int
  pa : Int
  st : List Stp
  stA : Option Addr
  stc : Nat
  lost : Bool
  si : List Int
  siA : Option Addr
  sic : Nat
  lb : List ByteArray
  lbA : Option Addr
  lbc : Nat
  se : List ByteArray
  seA : Option Addr
  sec : Nat
abbrev tkR : RowTy Trk := { T := 64, S := 47, k := 10, by' := 152, enc := fun x => [.string x.pl, .int .i64 x.pf, .int .i64 x.pt, .int .i64 x.pc, .int .i64 x.pa, .slice x.stA x.st.length x.stc, .bool x.lost, .slice x.siA x.si.length x.sic, .slice x.lbA x.lb.length x.lbc, .slice x.seA x.se.length x.sec] }
theorem tkOk : RowOk Tryz.prog tkR := ⟨fun _ => rfl, fun x u hu => by simp at hu; rcases hu with rfl | rfl | rfl | rfl | rfl | rfl | rfl | rfl | rfl | rfl <;> rfl, Tryz.underlying47, info_of (z := .agg #[.string ByteArray.empty, .int .i64 0, .int .i64 0, .int .i64 0, .int .i64 0, .slice none 0 0, .bool false, .slice none 0 0, .slice none 0 0, .slice none 0 0]) (by kernel_rfl) rfl, by decide, by decide⟩
abbrev tkA (x : Trk) : Value := .agg #[.string x.pl, .int .i64 x.pf, .int .i64 x.pt, .int .i64 x.pc, .int .i64 x.pa, .slice x.stA x.st.length x.stc, .bool x.lost, .slice x.siA x.si.length x.sic, .slice x.lbA x.lb.length x.lbc, .slice x.seA x.se.length x.sec]
/-- What a track leads to can be read. -/
structure TrkOk (w : World) (B : Nat) (x : Trk) : Prop where
  st : RecIn stR w B x.stA x.st
  si : RecIn intR w B x.siA x.si
  lb : RecIn strR w B x.lbA x.lb
  se : RecIn strR w B x.seA x.se
theorem TrkOk.keep {w w' : World} {x : Trk} (h : TrkOk w w.heap.size x) (hk : Keeps w w') : TrkOk w' w'.heap.size x := ⟨h.st.keep hk, h.si.keep hk, h.lb.keep hk, h.se.keep hk⟩
section
variable {w : World} {B : Nat} {A : Option Addr}
theorem RecIn.stp {l : List Stp} (h : RecIn stR w B A l) {j : Nat} {x : Stp} (hj : l[j]? = some x) : ∃ b off, A = some ⟨b, off, none⟩ ∧ b < B ∧ w.cell? ⟨b, off + j * 4, none⟩ = some (.int .i64 x.of_) ∧ w.cell? ⟨b, off + j * 4 + 1, none⟩ = some (.int .i64 x.ar) ∧ w.cell? ⟨b, off + j * 4 + 2, none⟩ = some (.int .i64 x.de) ∧ w.cell? ⟨b, off + j * 4 + 3, none⟩ = some (.int .i64 x.li) := by
  obtain ⟨b, off, e, hb, hc⟩ := h j x hj
  exact ⟨b, off, e, hb, hc 0 _ rfl, hc 1 _ rfl, hc 2 _ rfl, hc 3 _ rfl⟩
theorem RecIn.trk {l : List Trk} (h : RecIn tkR w B A l) {j : Nat} {x : Trk} (hj : l[j]? = some x) : ∃ b off, A = some ⟨b, off, none⟩ ∧ b < B ∧ w.cell? ⟨b, off + j * 10, none⟩ = some (.string x.pl) ∧ w.cell? ⟨b, off + j * 10 + 1, none⟩ = some (.int .i64 x.pf) ∧ w.cell? ⟨b, off + j * 10 + 2, none⟩ = some (.int .i64 x.pt) ∧ w.cell? ⟨b, off + j * 10 + 3, none⟩ = some (.int .i64 x.pc) ∧ w.cell? ⟨b, off + j * 10 + 4, none⟩ = some (.int .i64 x.pa) ∧ w.cell? ⟨b, off + j * 10 + 5, none⟩ = some (.slice x.stA x.st.length x.stc) ∧ w.cell? ⟨b, off + j * 10 + 6, none⟩ = some (.bool x.lost) ∧ w.cell? ⟨b, off + j * 10 + 7, none⟩ = some (.slice x.siA x.si.length x.sic) ∧ w.cell? ⟨b, off + j * 10 + 8, none⟩ = some (.slice x.lbA x.lb.length x.lbc) ∧ w.cell? ⟨b, off + j * 10 + 9, none⟩ = some (.slice x.seA x.se.length x.sec) := by
  obtain ⟨b, off, e, hb, hc⟩ := h j x hj
  exact ⟨b, off, e, hb, hc 0 _ rfl, hc 1 _ rfl, hc 2 _ rfl, hc 3 _ rfl, hc 4 _ rfl, hc 5 _ rfl, hc 6 _ rfl, hc 7 _ rfl, hc 8 _ rfl, hc 9 _ rfl⟩
end
structure FewT (n : Nat) (ts : List Trk) : Prop where
  st : ∀ t ∈ ts, t.st.length ≤ 20
  si : ∀ t ∈ ts, t.si.length ≤ 10
  lb : ∀ t ∈ ts, t.lb.length ≤ 10
  se : ∀ t ∈ ts, t.se.length ≤ 20
  sc : n ≤ 30
  nt : ts.length ≤ 8
def FewTPost (n : Nat) (ts : List Trk) (w : World) (e : Ending) (w' : World) : Prop := (∃ b, e = .returned (.bool b) ∧ (b = true ↔ FewT n ts)) ∧ w = w'
set_option maxHeartbeats 2000000 in
set_option maxRecDepth 100000 in
theorem few15 (ts : List Trk) (lA tA : Option Addr) (n lc m tc : Nat) (w : World) (ht : RecIn tkR w w.heap.size tA ts) (hm : Hid (m = ts.length)) (hmx : m ≤ 9223372036854775807) :
    Calls Tryz.prog 15 #[.slice lA n lc, .slice tA m tc, .slice none 0 0] w (FewTPost n ts w) := by
  have HD := Lib.hid ht
  clear ht
  go_enter Tryz.func15, Tryz.ntmps15
  go_wp2
  go_loopw [7] (fun i wx => ∃ k : Nat, k ≤ m ∧ i = .int .i64 (k : Int) ∧ w = wx ∧ ∀ t ∈ ts.take k, t.st.length ≤ 20 ∧ t.si.length ≤ 10 ∧ t.lb.length ≤ 10 ∧ t.se.length ≤ 20) (fun i _ => m - (intOf i).toNat)
  case atStart => exact ⟨0, by omega, rfl, rfl, fun x hx => by simp at hx⟩
  case round =>
    obtain ⟨k, hk, rfl, rfl, hall⟩ := hrel
    have HALL := Lib.hid hall
    clear hall
    have hml := hm.out
    by_cases hkm : k < m
    · obtain ⟨x, hx⟩ : ∃ x, ts[k]? = some x := ⟨_, List.getElem?_eq_getElem (by omega)⟩
      have HTK := Lib.hid (take_snoc' hx)
      have HMM := Lib.hid (List.mem_of_getElem? hx)
      obtain ⟨b, o, rfl, hb, _, _, _, _, _, a5, _, a7, a8, a9⟩ := HD.out.trk hx
      obtain ⟨p1, hp1⟩ : ∃ p, x.st.length = p := ⟨_, rfl⟩
      obtain ⟨p2, hp2⟩ : ∃ p, x.si.length = p := ⟨_, rfl⟩
      obtain ⟨p3, hp3⟩ : ∃ p, x.lb.length = p := ⟨_, rfl⟩
      obtain ⟨p4, hp4⟩ : ∃ p, x.se.length = p := ⟨_, rfl⟩
      have HP1 := Lib.hid hp1; have HP2 := Lib.hid hp2; have HP3 := Lib.hid hp3; have HP4 := Lib.hid hp4
      rw [hp1] at a5
      rw [hp2] at a7
      rw [hp3] at a8
      rw [hp4] at a9
      generalize x.stA = A1 at a5
      generalize x.stc = c1 at a5
      generalize x.siA = A2 at a7
      generalize x.sic = c2 at a7
      generalize x.lbA = A3 at a8
      generalize x.lbc = c3 at a8
      generalize x.seA = A4 at a9
      generalize x.sec = c4 at a9
      have km : (k : Int) < (m : Int) := by omega
      have k0 : (0 : Int) ≤ (k : Int) := by omega
      have kw : IntKind.i64.wrap ((k : Int) + 1) = (k : Int) + 1 := wrap_in (by omega) (by omega)
      clear hx hml hp1 hp2 hp3 hp4
      by_cases h1 : p1 ≤ 20
      · have d1 : decide ((20 : Int) < (p1 : Int)) = false := by simp; omega
        have d1' : decide (20 < p1) = false := by simp; omega
        by_cases h2 : p2 ≤ 10
        · have d2 : decide ((10 : Int) < (p2 : Int)) = false := by simp; omega
          have d2' : decide (10 < p2) = false := by simp; omega
          by_cases h3 : p3 ≤ 10
          · have d3 : decide ((10 : Int) < (p3 : Int)) = false := by simp; omega
            have d3' : decide (10 < p3) = false := by simp; omega
            by_cases h4 : p4 ≤ 20
            · have d4 : decide ((20 : Int) < (p4 : Int)) = false := by simp; omega
              have d4' : decide (20 < p4) = false := by simp; omega
              go_wp2_with fail
              go_roundw
              case rel =>
                refine ⟨k + 1, by omega, by go_num, (by first | rfl | trivial), fun y hy => ?_⟩
                rw [HTK.out] at hy
                rcases List.mem_append.1 hy with hy | hy
                · exact HALL.out y hy
                · rw [List.mem_singleton] at hy
                  subst hy
                  exact ⟨by rw [HP1.out]; exact h1, by rw [HP2.out]; exact h2, by rw [HP3.out]; exact h3, by rw [HP4.out]; exact h4⟩
              case measure => simp [intOf]; omega
            · have d4 : (20 : Int) < (p4 : Int) := by omega
              go_wp2_with fail
              go_ret
              exact ⟨⟨false, rfl, fun e => (by cases e), fun h => absurd (h.se _ HMM.out) (by rw [HP4.out]; exact h4)⟩, rfl⟩
          · have d3 : (10 : Int) < (p3 : Int) := by omega
            go_wp2_with fail
            go_ret
            exact ⟨⟨false, rfl, fun e => (by cases e), fun h => absurd (h.lb _ HMM.out) (by rw [HP3.out]; exact h3)⟩, rfl⟩
        · have d2 : (10 : Int) < (p2 : Int) := by omega
          go_wp2_with fail
          go_ret
          exact ⟨⟨false, rfl, fun e => (by cases e), fun h => absurd (h.si _ HMM.out) (by rw [HP2.out]; exact h2)⟩, rfl⟩
      · have d1 : (20 : Int) < (p1 : Int) := by omega
        go_wp2_with fail
        go_ret
        exact ⟨⟨false, rfl, fun e => (by cases e), fun h => absurd (h.st _ HMM.out) (by rw [HP1.out]; exact h1)⟩, rfl⟩
    · have hall2 : ts.take k = ts := List.take_of_length_le (by omega)
      rw [hall2] at HALL
      have hkm' : ¬ ((k : Int) < (m : Int)) := by omega
      clear hall2 hml
      by_cases h1 : n ≤ 30
      · have d1 : (n : Int) ≤ 30 := by omega
        by_cases h2 : m ≤ 8
        · have d2 : (m : Int) ≤ 8 := by omega
          go_wp2_with fail
          go_ret
          exact ⟨⟨true, rfl, fun _ => ⟨fun t h => (HALL.out t h).1, fun t h => (HALL.out t h).2.1, fun t h => (HALL.out t h).2.2.1, fun t h => (HALL.out t h).2.2.2, h1, by rw [← hm.out]; exact h2⟩, fun _ => rfl⟩, rfl⟩
        · have d2 : decide ((m : Int) ≤ 8) = false := by simp; omega
          have d2' : decide (m ≤ 8) = false := by simp; omega
          go_wp2_with fail
          go_ret
          exact ⟨⟨false, rfl, fun e => (by cases e), fun h => absurd h.nt (by rw [← hm.out]; exact h2)⟩, rfl⟩
      · have d1 : decide ((n : Int) ≤ 30) = false := by simp; omega
        have d1' : decide (n ≤ 30) = false := by simp; omega
        go_wp2_with fail
        go_ret
        exact ⟨⟨false, rfl, fun e => (by cases e), fun h => absurd h.sc h1⟩, rfl⟩
/-- The label of a track at a time, as the reference finds it. -/
def labR (time : Int) (si : List Int) (lb : List ByteArray) : ByteArray := (si.zip lb).foldl (fun o p => if p.1 ≤ time then p.2 else o) ByteArray.empty
set_option maxHeartbeats 2000000 in
set_option maxRecDepth 100000 in
theorem label20 (x : Trk) (time : Int) (w : World) (h : TrkOk w w.heap.size x) (hl : x.si.length ≤ x.lb.length) (hsm : x.si.length ≤ 1000) :
    Calls Tryz.prog 20 #[tkA x, .int .i64 time] w fun e w' => e = .returned (.string (labR time x.si x.lb)) ∧ Keeps w w' := by
  obtain ⟨pl, pf, pt, pc, pa, st, stA, stc, lost, si, siA, sic, lb, lbA, lbc, se, seA, sec⟩ := x
  obtain ⟨hst, hsi, hlb, hse⟩ := h
  simp only at hst hsi hlb hse hl hsm
  unfold tkA
  simp only
  obtain ⟨p1, hp1⟩ : ∃ p, st.length = p := ⟨_, rfl⟩
  obtain ⟨p2, hp2⟩ : ∃ p, si.length = p := ⟨_, rfl⟩
  obtain ⟨p3, hp3⟩ : ∃ p, lb.length = p := ⟨_, rfl⟩
  obtain ⟨p4, hp4⟩ : ∃ p, se.length = p := ⟨_, rfl⟩
  have HP2 := Lib.hid hp2; have HP3 := Lib.hid hp3
  rw [hp1, hp2, hp3, hp4]
  rw [hp2, hp3] at hl
  rw [hp2] at hsm
  have K2 := Lib.hid ((Keeps.refl w).alloc (.cells #[.string pl, .int .i64 pf, .int .i64 pt, .int .i64 pc, .int .i64 pa, .slice stA p1 stc, .bool lost, .slice siA p2 sic, .slice lbA p3 lbc, .slice seA p4 sec] 64))
  have B2 := Lib.hid (Blk.new w 64 #[.string pl, .int .i64 pf, .int .i64 pt, .int .i64 pc, .int .i64 pa, .slice stA p1 stc, .bool lost, .slice siA p2 sic, .slice lbA p3 lbc, .slice seA p4 sec])
  have SI := Lib.hid (hsi.keep K2.out); have LB := Lib.hid (hlb.keep K2.out)
  clear hst hsi hlb hse hp1 hp2 hp3 hp4
  go_enter Tryz.func20, Tryz.ntmps20
  go_upto_region 1 with fail
  generalize hw2 : w.alloc (.cells #[.string pl, .int .i64 pf, .int .i64 pt, .int .i64 pc, .int .i64 pa, .slice stA p1 stc, .bool lost, .slice siA p2 sic, .slice lbA p3 lbc, .slice seA p4 sec] 64) = w2 at *
  clear hw2
  have c3 := cell_of_blk B2.out 7 (v := .slice siA p2 sic) rfl
  have c4 := cell_of_blk B2.out 8 (v := .slice lbA p3 lbc) rfl
  go_wp2_with fail
  go_loopw [6, 5] (fun i o wx => ∃ k : Nat, k ≤ p2 ∧ i = .int .i64 (k : Int) ∧ o = .string (((si.zip lb).take k).foldl (fun o p => if p.1 ≤ time then p.2 else o) ByteArray.empty) ∧ wx = w2) (fun i o _ => p2 - (intOf i).toNat)
  case atStart => exact ⟨0, by omega, rfl, rfl, rfl⟩
  case round =>
    obtain ⟨k, hk, rfl, rfl, rfl⟩ := hrel
    have hl2 := HP2.out
    have hl3 := HP3.out
    by_cases hkn : k < p2
    · obtain ⟨s, hs⟩ : ∃ s, si[k]? = some s := ⟨_, List.getElem?_eq_getElem (by omega)⟩
      obtain ⟨t, ht⟩ : ∃ t, lb[k]? = some t := ⟨_, List.getElem?_eq_getElem (by omega)⟩
      obtain ⟨b1, o1, rfl, hb1, a1⟩ := SI.out.int hs
      obtain ⟨b2, o2, rfl, hb2, a2⟩ := LB.out.str ht
      have HF := Lib.hid (foldl_snoc (fun (o : ByteArray) (p : Int × ByteArray) => if p.1 ≤ time then p.2 else o) ByteArray.empty (show (si.zip lb)[k]? = some (s, t) by rw [List.getElem?_zip_eq_some]; exact ⟨hs, ht⟩))
      generalize ((si.zip lb).take k).foldl (fun o p => if p.1 ≤ time then p.2 else o) ByteArray.empty = G at *
      have kn : (k : Int) < (p2 : Int) := by omega
      have kn3 : (k : Int) < (p3 : Int) := by omega
      have kn4 : k < p3 := by omega
      have k0 : (0 : Int) ≤ (k : Int) := by omega
      have kw : IntKind.i64.wrap ((k : Int) + 1) = (k : Int) + 1 := wrap_in (by omega) (by omega)
      clear hs ht hl2 hl3
      by_cases hst : s ≤ time
      · go_wp2_with fail
        go_roundw
        case rel => exact ⟨k + 1, by omega, by go_num, (by rw [HF.out, if_pos hst]), (by first | rfl | trivial)⟩
        case measure => simp [intOf]; omega
      · have d1 : decide (s ≤ time) = false := by simpa using hst
        go_wp2_with fail
        go_roundw
        case rel => exact ⟨k + 1, by omega, by go_num, (by rw [HF.out, if_neg hst]), (by first | rfl | trivial)⟩
        case measure => simp [intOf]; omega
    · have e : (si.zip lb).take k = si.zip lb := List.take_of_length_le (by rw [List.length_zip]; omega)
      rw [e]
      have HG := Lib.hid (show labR time si lb = (si.zip lb).foldl (fun o p => if p.1 ≤ time then p.2 else o) ByteArray.empty from rfl)
      generalize (si.zip lb).foldl (fun o p => if p.1 ≤ time then p.2 else o) ByteArray.empty = G at *
      have hkn' : ¬ ((k : Int) < (p2 : Int)) := by omega
      clear hl2 hl3 e
      go_wp2_with fail
      go_ret
      exact ⟨by rw [HG.out]; rfl, K2.out⟩
end
end Go.Proofs.YthkmpegpmpdhaaaGreatDoor
