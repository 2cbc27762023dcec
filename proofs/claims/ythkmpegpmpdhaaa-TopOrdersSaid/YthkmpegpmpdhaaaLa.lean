/- Part of the proofs of TopMoney and TopOrders. Conditions: as stated in each theorem. -/
import Derived.Test.YthkmpegpmpdhaaaRe
import Derived.Test.YthkmpegpmpdhaaaLw
import Derived.Deep.CutRange
import Derived.StillTailTactics
import Derived.Lib.SliceRun
import Derived.RangeFuncRecord
import Derived.Carry
import Derived.ChangeKeysEq
import Derived.Shelf.SlSortCmp.Insertion1
import Derived.Shelf.Lay
import Derived.Ground.SlsfProg
import Derived.Sort.LotA
import Derived.Test.YthkmpegpmpdhaaaRows
import Derived.WalkKit
import Derived.WalkSpells
import Derived.WalkLawsBesides
import Derived.Laws.EntriesVeiled
import Derived.ProofKit
import Derived.OpenShut
import Derived.Lib.Hide
import Derived.BigQuiet
import Derived.Deep.QuietTactic
import Derived.Below
import Derived.Laws.OwnMore
import Derived.Deep.AppendLies
import Derived.Deep.Draws
import Derived.Laws.Rows
import Derived.Maps.AppendAt
import Derived.RegionTactic
import Derived.OwnWalk
import Derived.Deep.RegionHeld3
namespace Go.Proofs.Ythkmpegpmpdhaaa
open Go.Shelf Go.Sort Go.ChangeShapes Go.WideShapes Go.ChangeAt Go.RowKit
set_option linter.unusedSimpArgs false
set_option linter.unusedVariables false
/-- A guarded operation whose guard holds. -/
theorem wpList_want {P : Program} {ops : Array Oper} {Q : Exit → Act → World → Prop} {a : Act} {w : World} {rest : List Oper} {d : Option Tmp} {op : Op} {t : TypeId} {p : String} {af : Array Edge} {g : Option (Nat × Bool)}
    (hw : Region.wanted ⟨d, op, t, p, af, g⟩ (yielded ops a.tmps) = true) (h : wpList P ops Q (⟨d, op, t, p, af, none⟩ :: rest) a w) : wpList P ops Q (⟨d, op, t, p, af, g⟩ :: rest) a w := by
  unfold wpList at h ⊢
  rw [if_pos hw]
  rw [if_pos (by simp [Region.wanted])] at h
  exact h
set_option maxRecDepth 100000 in
set_option maxHeartbeats 16000000 in
theorem law_orders (d : List (List Int)) (dA : Option Addr) (dc : Nat) (l : List EvC) (eA : Option Addr) (ec : Nat) (vs : List Int) (vA : Option Addr) (vc : Nat) (w : World) (h : NumRows w w.heap.size dA d) (hdm : d.length ≤ maxLen) (he : RecIn evR w w.heap.size eA l) (hem : l.length ≤ maxLen)
    (hv : RecIn intR w w.heap.size vA vs) (hvm : vs.length ≤ maxLen) :
    Calls Try.prog 4 #[.slice dA d.length dc, .slice eA l.length ec, .slice vA vs.length vc] w (BoolPost true w) := by
  have HD := Lib.hid h
  have HE := Lib.hid he
  have HV := Lib.hid hv
  obtain ⟨N, hN⟩ : ∃ N, d.length = N := ⟨_, rfl⟩
  obtain ⟨n, hn⟩ : ∃ n, l.length = n := ⟨_, rfl⟩
  obtain ⟨m, hm⟩ : ∃ m, vs.length = m := ⟨_, rfl⟩
  rw [hN] at hdm ⊢
  rw [hn] at hem ⊢
  rw [hm] at hvm ⊢
  have hNm : N ≤ 9223372036854775807 := by unfold maxLen at hdm; omega
  have hnm : n ≤ 9223372036854775807 := by unfold maxLen at hem; omega
  have hmm : m ≤ 9223372036854775807 := by unfold maxLen at hvm; omega
  have HN := Lib.hid hN
  have HL := Lib.hid hn.symm
  have HM := Lib.hid hm.symm
  clear h he hv hN hn hm hdm hem hvm
  go_enter Try.func4, Try.ntmps4
  go_upto_region 2 with (go_at_call 12; (with_reducible refine (ordered_any _).mono ?_); rintro e w1 ⟨rfl, hk⟩; have K1 := Lib.hid hk; clear hk)
  have D1 := Lib.hid (HD.out.keep K1.out); have E1 := Lib.hid (HE.out.keep K1.out)
  go_upto_region 4 with (first | (go_at_call 13; (with_reducible refine (few_any d _ _ _ _ _ _ _ D1.out (Lib.hid HN.out.symm) hNm hnm).mono ?_); rintro e w2 ⟨b1, rfl, hk, hb1⟩; have K2 := Lib.hid (K1.out.trans hk); have D2 := Lib.hid (D1.out.keep hk); have E2 := Lib.hid (E1.out.keep hk); clear hk D1 E1))
  · have hb1' := hb1 (by assumption)
    have hN5 := hb1'.1
    have hn7 := hb1'.2
    have hN6 : N ≤ 1000000 := by omega
    clear hb1 hb1' hNm hnm
    refine (valid_any d l dA eA N dc n ec w2 D2.out (Lib.hid HN.out.symm) hN6 E2.out HL (by omega)).mono ?_
    rintro e w3 ⟨b2, rfl, hk, hb2⟩
    have K3 := Lib.hid (K2.out.trans hk); have D3 := Lib.hid (D2.out.keep hk); have E3 := Lib.hid (E2.out.keep hk)
    clear hk D2 E2
    cases b2
    · clear hb2
      go_wp2_with fail
      go_ret
      exact bool_post rfl K3.out
    · have FD := Lib.hid (hb2 rfl).1
      have FO := Lib.hid (hb2 rfl).2
      clear hb2
      go_wp2_with fail
      refine (fit_any d l dA eA N dc n ec w3 D3.out FD.out HN (by omega) E3.out HL (by omega) FO.out).mono ?_
      intro e w4 hF
      rcases hF with ⟨A4, n4, c4, rfl, hk, -⟩ | ⟨s, A4, n4, c4, rfl, hn4, hr4, hk, hw4, ho4, hl4, -⟩
      · have K4 := Lib.hid (K3.out.trans hk)
        clear hk
        go_wp2_with fail
        go_ret
        exact bool_post rfl K4.out
      · have FH := Lib.hid (fit_holds FD.out FO.out hw4 ho4 hl4)
        obtain ⟨x, hx⟩ : ∃ x, timesF d (plainU (sortU (unitsC l))) l.length s = x := ⟨_, rfl⟩
        rw [hx] at hr4 FH
        clear hx hw4 ho4 hl4
        have hn4' : n4 = n := by rw [hn4.out]; exact HL.out.symm
        subst hn4'
        clear hn4
        have K4 := Lib.hid (K3.out.trans hk); have D4 := Lib.hid (D3.out.keep hk); have E4 := Lib.hid (E3.out.keep hk)
        have X4 := Lib.hid hr4
        have HEL := Lib.hid (show (l.map (·.1)).length = n4 by simp; exact HL.out.symm)
        have HXL := Lib.hid (show n4 = x.length from by rw [FH.out.len]; exact HEL.out.symm)
        clear hk hr4 D3 E3
        have LE := Lib.hid (show ([0] : List Int).length + x.length ≤ 1000000 by rw [← HXL.out]; simp; omega)
        go_upto_region 13 with (first | (go_at_call 16; (with_reducible refine (holdsO_any d l x _ _ _ N _ n4 _ _ _ D4.out FD.out HN (by omega) E4.out HL (by omega) FO.out X4.out HXL FH.out).mono ?_); rintro e w5 ⟨rfl, hk⟩; have K5 := Lib.hid (K4.out.trans hk); have D5 := Lib.hid (D4.out.keep hk); have E5 := Lib.hid (E4.out.keep hk); have X5 := Lib.hid (X4.out.keep hk); clear hk D4 E4 X4) | (go_at_call 17; (with_reducible refine (seq_any d l x _ _ _ N _ n4 _ _ _ D5.out FD.out HN E5.out HL (by omega) FO.out X5.out HXL FH.out).mono ?_); rintro e w6 ⟨A6, n6, c6, out, rfl, hn6, hr, hol, hs, hk⟩; obtain rfl : n4 = n6 := (hn6.out.trans HEL.out).symm; clear hn6; have K6 := Lib.hid (K5.out.trans hk); have D6 := Lib.hid (D5.out.keep hk); have E6 := Lib.hid (E5.out.keep hk); have X6 := Lib.hid (X5.out.keep hk); have S6 := Lib.hid hr; have OL := Lib.hid hol; have OS := Lib.hid hs; have ON := Lib.hid (show n4 = out.length from (OL.out.trans HEL.out).symm); have OT := Lib.hid (show ∀ i ∈ out, i < n4 from fun i hi => Nat.lt_of_lt_of_eq (OS.out.lt i hi) HEL.out); clear hk hr hol hs D5 E5 X5) | (go_at_call 18; (with_reducible refine (bounds_any d l out x _ _ _ N _ n4 _ _ _ D6.out FD.out HN E6.out HL (by omega) FO.out S6.out ON OT.out FH.out).mono ?_); rintro e w7 ⟨A7, n7, c7, rfl, hn7', hr, hk⟩; have BN := Lib.hid hn7'.out; have K7 := Lib.hid (K6.out.trans hk); have D7 := Lib.hid (D6.out.keep hk); have E7 := Lib.hid (E6.out.keep hk); have X7 := Lib.hid (X6.out.keep hk); have B7 := Lib.hid hr; clear hk hr hn7' D6 E6 X6 S6))
        have RD := Lib.hid (show Ready d (l.map (·.1)) x out from ⟨FD.out, fun e he => by obtain ⟨y, hy, rfl⟩ := List.mem_map.1 he; exact FO.out y hy, FH.out, OS.out, OL.out, by rw [HEL.out]; exact hn7⟩)
        have O7 := Lib.hid (OwnR.lit1 (Keeps.refl w7) 0)
        have XA := Lib.hid (X7.out.keep ((Keeps.refl w7).alloc (.cells #[.int .i64 0] 3)))
        clear OS OL ON OT
        go_upto_region 14 with (at_builtin; refine wpList_appR intOk (w0 := w7) rfl (.tmp 57) (.tmp 58) rfl _ [0] rfl O7.out _ _ _ x rfl XA.out HXL LE ?_; intro A8 n8 c8 w8 ho8 hg8; clear hg8; have O8 := Lib.hid ho8; clear ho8)
        have KK8 := O8.out.2
        have K8 := Lib.hid (K7.out.trans KK8); have D8 := Lib.hid (D7.out.keep KK8); have E8 := Lib.hid (E7.out.keep KK8); have X8 := Lib.hid (X7.out.keep KK8); have B8 := Lib.hid (B7.out.keep KK8)
        have A8' := Lib.hid (O8.out.recs intOk).1
        have N8' := Lib.hid (O8.out.recs intOk).2
        clear KK8 O8 XA O7 D7 E7 X7 B7
        go_upto_region 16 with (first | (go_at_call 19; (with_reducible refine (close_law RD.out n4 HEL _ _ _ _ B8.out BN).mono ?_); rintro e w9 ⟨A9, k9, c9, rfl, hk⟩; have K9 := Lib.hid (K8.out.trans hk); have D9 := Lib.hid (D8.out.keep hk); have E9 := Lib.hid (E8.out.keep hk); have X9 := Lib.hid (X8.out.keep hk); have B9 := Lib.hid (B8.out.keep hk); have A9' := Lib.hid (A8'.out.keep hk); clear hk D8 E8 X8 B8 A8') | (go_at_call 20; (with_reducible refine (solve_law RD.out n4 HEL _ _ _ _ B9.out BN).mono ?_); rintro e w10 ⟨yb, yf, yc, y, rfl, hy, hyl, hyh, hyx, hk⟩; have K10 := Lib.hid (K9.out.trans hk); have D10 := Lib.hid (D9.out.keep hk); have E10 := Lib.hid (E9.out.keep hk); have X10 := Lib.hid (X9.out.keep hk); have B10 := Lib.hid (B9.out.keep hk); have A10 := Lib.hid (A9'.out.keep hk); have Y10 := Lib.hid hy; have YL := Lib.hid hyl.out; have YH := Lib.hid hyh; have YX := Lib.hid hyx; clear hk hy hyl hyh hyx D9 E9 X9 B9 A9'))
        have YDL := Lib.hid (show n4 = (y.drop 1).length by rw [List.length_drop, YL.out]; rfl)
        go_upto_region 18 with (first | (go_at_call 21; (with_reducible refine (holdsD_law RD.out _ _ _ _ _ _ _ A10.out N8' B10.out BN).mono ?_); rintro e w11 ⟨rfl, hk⟩; have K11 := Lib.hid (K10.out.trans hk); have D11 := Lib.hid (D10.out.keep hk); have E11 := Lib.hid (E10.out.keep hk); have X11 := Lib.hid (X10.out.keep hk); have B11 := Lib.hid (B10.out.keep hk); have Y11 := Lib.hid (Y10.out.keep hk); have YD := Lib.hid (show RecIn intR w11 w11.heap.size (some ⟨yb, yf + 1, none⟩) (y.drop 1) from Y11.out.drop 1); have YD0 := Lib.hid (show n4 + 1 + yc = 1 → RecIn intR w11 w11.heap.size (some ⟨yb, yf, none⟩) (y.drop 1) from fun h0 => by rw [List.drop_eq_nil_of_le (by rw [YL.out]; omega)]; exact RecIn.nil _); clear hk D10 E10 X10 B10 A10 Y10) | (go_at_call 16; (with_reducible refine (holdsO_any d l (y.drop 1) _ _ _ N _ n4 _ _ _ D11.out FD.out HN (by omega) E11.out HL (by omega) FO.out YD.out YDL YH.out).mono ?_); rintro e w12 ⟨rfl, hk⟩; have K12 := Lib.hid (K11.out.trans hk); have D12 := Lib.hid (D11.out.keep hk); have E12 := Lib.hid (E11.out.keep hk); have X12 := Lib.hid (X11.out.keep hk); have B12 := Lib.hid (B11.out.keep hk); have Y12 := Lib.hid (Y11.out.keep hk); clear hk D11 E11 X11 B11 Y11 YD YD0) | (go_at_call 16; (with_reducible refine (holdsO_any d l (y.drop 1) _ _ _ N _ n4 _ _ _ D11.out FD.out HN (by omega) E11.out HL (by omega) FO.out (YD0.out (by assumption)) YDL YH.out).mono ?_); rintro e w12 ⟨rfl, hk⟩; have K12 := Lib.hid (K11.out.trans hk); have D12 := Lib.hid (D11.out.keep hk); have E12 := Lib.hid (E11.out.keep hk); have X12 := Lib.hid (X11.out.keep hk); have B12 := Lib.hid (B11.out.keep hk); have Y12 := Lib.hid (Y11.out.keep hk); clear hk D11 E11 X11 B11 Y11 YD YD0))
        all_goals (
          go_wp2_with fail
          go_loopw [17] (fun c wr => ∃ i : Nat, i ≤ n4 ∧ c = .int .i64 (i : Int) ∧ Keeps w12 wr) (fun c _ => n4 - (intOf c).toNat)
          case atStart => exact ⟨0, by omega, rfl, Keeps.refl _⟩
          case round =>
            obtain ⟨i, hi, rfl, hK⟩ := hrel
            by_cases hin : i < n4
            · have hii : (i : Int) < (n4 : Int) := by omega
              have hi0 : (0 : Int) ≤ (i : Int) := by omega
              have hi01 : (0 : Int) ≤ (i : Int) ∧ (i : Int) < (n4 : Int) := ⟨hi0, hii⟩
              have hi1 : (0 : Int) ≤ (i : Int) + 1 := by omega
              have hi11 : (i : Int) + 1 < (n4 : Int) + 1 := by omega
              have hti : ((i : Int) + 1).toNat = i + 1 := by omega
              have hiw : IntKind.i64.wrap ((i : Int) + 1) = (i : Int) + 1 := wrap_in (by omega) (by omega)
              have hle := YX.out i hin
              obtain ⟨xb, xf, hA, hxb, x_i⟩ := (X12.out.keep hK).int (get_at0 (l := x) (i := i) (by have := HXL.out; omega))
              subst hA
              obtain ⟨yb', yf', e, -, y_i⟩ := (Y12.out.keep hK).int (get_at0 (l := y) (i := i + 1) (by have := YL.out; omega))
              cases e
              obtain ⟨xi, hxi⟩ : ∃ q, at0 x i = q := ⟨_, rfl⟩
              obtain ⟨yi, hyi⟩ : ∃ q, at0 y (i + 1) = q := ⟨_, rfl⟩
              rw [hxi] at x_i hle
              rw [hyi] at y_i hle
              have t1 : decide (yi < xi) = false := by simp; omega
              have HK := Lib.hid hK
              clear hxi hyi hK
              go_wp2_with fail
              go_quiet (fail)
              have HK2 := Lib.hid (HK.out.trans ((Keeps.refl wr).drewN nq))
              clear x_i y_i t1 hle
              go_wp2_with fail
              go_roundw
              case rel => first | exact ⟨i + 1, by omega, by go_num, HK2.out⟩ | ((repeat apply Exists.intro); exact ⟨⟨i + 1, by omega, by go_num, HK2.out⟩, rfl⟩)
              case measure => simp [intOf]; omega
            · obtain rfl : n4 = i := by omega
              have W13 := Lib.hid (K12.out.trans hK)
              by_cases hmn : n4 = m
              · subst hmn
                have D13 := Lib.hid (D12.out.keep hK); have E13 := Lib.hid (E12.out.keep hK); have B13 := Lib.hid (B12.out.keep hK)
                have V13 := Lib.hid (HV.out.keep W13.out)
                have VA := Lib.hid (V13.out.keep ((Keeps.refl wr).alloc (.cells #[.int .i64 0] 3)))
                have O13 := Lib.hid (OwnR.lit1 (Keeps.refl wr) 0)
                have LV := Lib.hid (show ([0] : List Int).length + vs.length ≤ 1000000 by rw [← HM.out]; simp; omega)
                have HVL := Lib.hid (show vs.length = (l.map (·.1)).length from HM.out.symm.trans HEL.out.symm)
                clear hK D12 E12 B12 X12 Y12
                go_wp2_with (first | (at_builtin; refine wpList_want (by rfl) ?_; refine wpList_appR intOk (w0 := wr) rfl (.tmp 126) (.tmp 127) rfl _ [0] rfl O13.out _ _ _ vs rfl VA.out HM LV ?_; intro A14 n14 c14 w14 ho14 hg14; clear hg14; have KK := ho14.2; have O14 := Lib.hid (ho14.recs intOk).1; have N14 := Lib.hid (ho14.recs intOk).2; have W14 := Lib.hid (W13.out.trans KK); have D14 := Lib.hid (D13.out.keep KK); have E14 := Lib.hid (E13.out.keep KK); have B14 := Lib.hid (B13.out.keep KK); have V14 := Lib.hid (V13.out.keep KK); clear ho14 KK O13 VA D13 E13 B13 V13) | (go_at_call 21; (with_reducible refine (holdsV_law RD.out HVL _ _ _ _ _ _ _ O14.out N14 B14.out BN).mono ?_); rintro e w15 ⟨b15, rfl, hk, hb⟩; have W15 := Lib.hid (W14.out.trans hk); have D15 := Lib.hid (D14.out.keep hk); have E15 := Lib.hid (E14.out.keep hk); have V15 := Lib.hid (V14.out.keep hk); clear hk D14 E14 B14 V14 O14))
                rotate_left
                · have hbt := hb (by have h : (!b15) = false := by assumption
                                     simpa using h)
                  refine (holdsO_any d l vs dA eA vA N dc n4 ec vc w15 D15.out FD.out HN (by omega) E15.out HL (by omega) FO.out V15.out HM hbt).mono ?_
                  rintro e w16 ⟨rfl, hk⟩
                  have W16 := Lib.hid (W15.out.trans hk)
                  clear hk hbt hb
                  go_wp2_with fail
                  go_ret
                  exact bool_post rfl W16.out
                · go_ret
                  exact bool_post rfl W15.out
              · have hmi : ¬ (m : Int) = (n4 : Int) := by omega
                have hmi2 : ¬ m = n4 := by omega
                go_wp2_with fail
                go_ret
                exact bool_post rfl W13.out)
  · go_ret
    exact bool_post rfl K2.out
end Go.Proofs.Ythkmpegpmpdhaaa
