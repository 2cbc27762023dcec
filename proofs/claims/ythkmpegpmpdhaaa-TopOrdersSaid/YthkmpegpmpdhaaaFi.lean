/- Part of the proofs of TopMoney and TopOrders. Conditions: as stated in each theorem. -/
import Derived.Test.YthkmpegpmpdhaaaTh
import Derived.Deep.CutRange
import Derived.StillTailTactics
import Derived.Lib.SliceRun
import Derived.RangeFuncRecord
import Derived.Carry
import Derived.ChangeKeysEq
import Derived.Shelf.SlSortCmp.Insertion1
import Derived.Shelf.Lay
import Derived.Ground.SlsfProg
import Derived.Sort.LotA
import Derived.Test.YthkmpegpmpdhaaaRows
import Derived.WalkKit
import Derived.WalkSpells
import Derived.WalkLawsBesides
import Derived.Laws.EntriesVeiled
import Derived.ProofKit
import Derived.OpenShut
import Derived.Lib.Hide
import Derived.BigQuiet
import Derived.Deep.QuietTactic
import Derived.Below
import Derived.Laws.OwnMore
import Derived.Deep.AppendLies
import Derived.Deep.Draws
import Derived.Laws.Rows
import Derived.Maps.AppendAt
import Derived.RegionTactic
import Derived.OwnWalk
import Derived.Deep.RegionHeld3
namespace Go.Proofs.Ythkmpegpmpdhaaa
open Go.Shelf Go.Sort Go.ChangeShapes Go.WideShapes Go.ChangeAt Go.RowKit
set_option linter.unusedSimpArgs false
set_option linter.unusedVariables false
set_option maxRecDepth 100000 in
set_option maxHeartbeats 8000000 in
theorem fit_any (d : List (List Int)) (l : List EvC) (dA eA : Option Addr) (N dc n ec : Nat) (w : World) (h : NumRows w w.heap.size dA d) (hd : DistOk d) (hN : Hid (d.length = N)) (hd12 : N ≤ 12) (he : RecIn evR w w.heap.size eA l) (hln : Hid (n = l.length)) (hn : n ≤ 15)
    (ho : ∀ e ∈ l, isOff d e.1.o) : Calls Try.prog 15 #[.slice dA N dc, .slice eA n ec, .slice none 0 0] w (FitPost d l w) := by
  have HD := Lib.hid h
  have HE := Lib.hid he
  have HO := Lib.hid ho
  clear h he ho
  cases hw : winB (unitsC l)
  · have HW := Lib.hid hw
    clear hw
    go_enter Try.func15, Try.ntmps15
    go_wp2_with (first | (go_at_call 36; (with_reducible refine (wellO_any d l dA eA N dc n ec _ HD.out hd hN hd12 HE.out hln (by omega) HO.out).mono ?_); rintro e w1 ⟨rfl, hk1⟩) | (go_at_call 37; (with_reducible refine (split_bad l dA eA N dc ec _ (HE.out.keep hk1) n hln (by omega) HW.out).mono ?_); rintro e w2 ⟨A2, n2, c2, rfl, hk2⟩))
    go_ret2
    exact .inl ⟨_, _, _, rfl, hk1.trans hk2, fun f s h => by rw [HW.out] at h; cases h⟩
  have HW := Lib.hid hw
  obtain ⟨us, hus⟩ : ∃ us, sortU (unitsC l) = us := ⟨_, rfl⟩
  have HUS := Lib.hid hus
  have hul : us.length = n := by rw [← hus, (sortU_is _).2, unitsC_len]; exact hln.out.symm
  have HUL := Lib.hid hul
  have HN16 := Lib.hid (show us.length < 16 by omega)
  have HOU := Lib.hid (show ∀ u ∈ us, isOff d u.2.1.o by rw [← hus]; exact units_off HO.out)
  have HD12 := Lib.hid (show d.length ≤ 12 by rw [hN.out]; exact hd12)
  clear hw hus hul
  go_enter Try.func15, Try.ntmps15
  go_upto_region 6 with (first | (go_at_call 36; (with_reducible refine (wellO_any d l dA eA N dc n ec _ HD.out hd hN hd12 HE.out hln (by omega) HO.out).mono ?_); rintro e w1 ⟨rfl, hk1⟩; have K1 := Lib.hid hk1; clear hk1) | (go_at_call 37; (with_reducible refine (split_is l dA eA N dc ec _ (HE.out.keep K1.out) n hln (by omega) HW.out us HUS).mono ?_); rintro e w2 ⟨A2, n2, c2, rfl, hn2, hr2, hk2⟩; have HN2 := Lib.hid hn2.out; have U2 := Lib.hid hr2; have K2 := Lib.hid (K1.out.trans hk2); clear hr2 hk2 hn2))
  have hn2n : n2 = n := by rw [HN2.out, HUL.out]
  subst hn2n
  have kA : Keeps w2 (w2.alloc (.cells #[.slice dA N dc, .slice A2 n2 c2, .slice none 0 0] 91)) := (Keeps.refl w2).alloc _
  have P3 := Lib.hid (show SrPre d us (w2.alloc (.cells #[.slice dA N dc, .slice A2 n2 c2, .slice none 0 0] 91)) w2.heap.size dA A2 dc c2 (.slice none 0 0) from ⟨by rw [hN.out, HUL.out]; exact Blk.new w2 91 _, (HD.out.keep K2.out).below kA, U2.out.below kA⟩)
  have K3 := Lib.hid (K2.out.trans kA)
  have KS := Lib.hid K2.out.size
  clear kA
  cases hpc : precJ d (plainU us) us.length with
  | none =>
    have HPC := Lib.hid hpc
    clear hpc
    go_wp2_with (go_at_call 38; (with_reducible refine (precede_any d us _ dA A2 dc c2 (.slice none 0 0) _ P3.out HN16.out hd HOU.out).mono ?_); rintro e w4 ⟨hg4, hp4⟩; rw [HPC.out] at hp4; simp only at hp4; subst hp4; have K4 := Lib.hid (grown_keeps K3.out hg4 (fun k e => by cases e; exact KS.out)); clear hg4)
    go_ret2
    exact .inl ⟨_, _, _, rfl, K4.out, fun f s _ h => by rw [HUS.out, ← hln.out, ← HUL.out, HPC.out] at h; cases h⟩
  | some f =>
    have HPC := Lib.hid hpc
    clear hpc
    cases hqc : quickK d (plainU us) f us.length with
    | some s =>
      have HQC := Lib.hid hqc
      have hok := quick_ok _ _ hqc
      have OKP := Lib.hid hok.1
      have SL := Lib.hid hok.2
      clear hqc hok
      go_upto_region 12 with (first | (go_at_call 38; (with_reducible refine (precede_any d us _ dA A2 dc c2 (.slice none 0 0) _ P3.out HN16.out hd HOU.out).mono ?_); rintro e w4 ⟨hg4, hp4⟩; rw [HPC.out] at hp4; simp only at hp4; obtain ⟨rfl, fA, fc, hs4, hf4, hm4⟩ := hp4; have S4 := Lib.hid hs4; have F4 := Lib.hid hf4; have M4 := Lib.hid hm4; have K4 := Lib.hid (grown_keeps K3.out hg4 (fun k e => by cases e; exact KS.out)); clear hg4 hs4 hf4 hm4) | (go_at_call 39; (with_reducible refine (quick_is d us f _ dA A2 fA dc c2 fc _ S4.out F4.out M4.out HN16.out hd HOU.out (some s) HQC).mono ?_); rintro e w7 ⟨sA, q, sc, rfl, hq7, hr7, hk7⟩; have HQ := Lib.hid hq7.out; have R7 := Lib.hid hr7; have S7 := Lib.hid (S4.out.keep hk7); have K7 := Lib.hid (K4.out.trans hk7); clear hq7 hr7 hk7 F4 M4))
      have HLAST : Hid (∀ f' s', precJ d (plainU us) us.length = some f' → quickK d (plainU us) f' us.length = some s' → s = s') := Lib.hid (fun f' s' h1 h2 => by rw [HPC.out] at h1; cases h1; rw [HQC.out] at h2; cases h2; rfl)
      have hqn : q = n2 := by rw [HQ.out, SL.out, HUL.out]
      subst hqn
      have SQ := Lib.hid HQ.out.symm
      have HIX : Hid (∀ (u : Nat) (x : UnC), us[u]? = some x → x.1 < q) := Lib.hid (fun u x hx => by
        have hul : u < us.length := (List.getElem?_eq_some_iff.1 hx).1
        have h1 := ((units_ok l).at_ (k := u) (by rw [plainU_len, HUS.out]; exact hul)).1
        rw [HUS.out, (plainU_at hx).2.1] at h1
        have h2 := (List.getElem?_eq_some_iff.1 h1).1
        simp at h2
        rw [← hln.out] at h2
        exact h2)
      have mwr := meth_write
      have msp := meth_span
      go_wp2_with (at_make; refine wpList_makeR intOk (w0 := w7) rfl (.tmp 54) (.tmp 54) rfl 0 (.int .i64 0) (by kernel_rfl) rfl q rfl rfl (by omega) (Keeps.refl _) ?_; intro w8 ho8 hg8; have O8 := Lib.hid ho8; clear ho8 hg8)
      have O9 := Lib.hid (O8.out.keep ((Keeps.refl w8).alloc (.cells #[.int .u32 0, .int .i64 (-1)] 94)))
      have B9 := Lib.hid (Blk.new w8 94 #[.int .u32 0, .int .i64 (-1)])
      have HBX := Lib.hid (show w7.heap.size ≤ w8.heap.size from O8.out.2.size)
      clear O8
      generalize hbx : w8.heap.size = bx at *
      clear hbx
      go_loopw [14, 16, 17, 59] (fun t _ _ c wr => ∃ k : Nat, k ≤ q ∧ c = .int .i64 (k : Int) ∧ t = .int .i64 (pathF d (plainU us) (s.take k)).2.2 ∧ Blk wr bx 94 #[.int .u32 ((pathF d (plainU us) (s.take k)).1 : Int), .int .i64 (pathF d (plainU us) (s.take k)).2.1] ∧ OwnR intR w7 wr (.slice (some ⟨w7.heap.size, 0, none⟩) q q) (timesF d (plainU us) q (s.take k))) (fun _ _ _ c _ => q - (intOf c).toNat)
      case atStart => exact ⟨0, by omega, rfl, rfl, B9.out, O9.out⟩
      case round =>
        clear B9 O9
        obtain ⟨k, hk, rfl, rfl, hB, hO⟩ := hrel
        have OB := Lib.hid hB; have OO := Lib.hid hO
        have hK : Keeps w7 wr := hO.2
        clear hB hO
        by_cases hkn : k < q
        · have hki : (k : Int) < (q : Int) := by omega
          have hk0 : (0 : Int) ≤ (k : Int) := by omega
          have hkw : IntKind.i64.wrap ((k : Int) + 1) = (k : Int) + 1 := wrap_in (by omega) (by omega)
          obtain ⟨u, hu⟩ : ∃ u, s[k]? = some u := ⟨_, List.getElem?_eq_getElem (by rw [SQ.out]; exact hkn)⟩
          have hux := OKP.out k u hu
          have hun : u < us.length := by have := hux.1; rwa [plainU_len] at this
          obtain ⟨x, hx⟩ : ∃ x, us[u]? = some x := ⟨_, List.getElem?_eq_getElem hun⟩
          have HTK := Lib.hid (show s.take (k + 1) = s.take k ++ [u] by rw [List.take_add_one, hu]; rfl)
          have hst := path_st HN16.out HOU.out (s.take k).length (s.take k) rfl (by have h := OKP.out; rw [← List.take_append_drop k s] at h; exact okP_pre h)
          have htn := times_snoc d (plainU us) q (s.take k) u
          have hpn := pathF_snoc d (plainU us) (s.take k) u
          obtain ⟨⟨m, now, time⟩, hp⟩ : ∃ st, pathF d (plainU us) (s.take k) = st := ⟨_, rfl⟩
          rw [hp] at hst hux hpn OB
          rw [hp]
          simp only at OB
          simp only
          unfold stepU at hpn
          rw [(plainU_at hx).1] at hpn
          simp only at hpn
          rw [hpn, (plainU_at hx).2.1] at htn
          simp only at htn
          have HPN := Lib.hid hpn
          have HTN := Lib.hid htn
          have HX := Lib.hid hx
          have HOX := Lib.hid (HOU.out x (List.mem_of_getElem? hx))
          have HXI := Lib.hid (HIX.out u x hx)
          have hu16 : u < 16 := by have := HN16.out; omega
          obtain ⟨hm16, HNW, ht0, ht1⟩ := hst
          simp only at hm16 HNW ht0 ht1
          have HNOW := Lib.hid HNW
          obtain ⟨sb, so, rfl, hsb, cs⟩ := (R7.out.keep hK).nat hu
          obtain ⟨ub, uo, huA, hub, _, _, F⟩ := (S7.out.keep hK).reads HX.out
          subst huA
          have HF := Lib.hid F
          have S9 := Lib.hid (S7.out.keep hK)
          have d0 : wr.cell? ⟨bx, 0, none⟩ = some (.int .u32 (m : Int)) := OB.out.cell 0
          have d1 : wr.cell? ⟨bx, 1, none⟩ = some (.int .i64 now) := OB.out.cell 1
          have hu01 : (0 : Int) ≤ (u : Int) ∧ (u : Int) < (q : Int) := ⟨by omega, by have := HUL.out; omega⟩
          obtain ⟨bg, hbg⟩ : ∃ bg, beginF d now time x.2.1 = bg := ⟨_, rfl⟩
          have hbl := begin_le (d := d) (now := now) (time := time) (e := x.2.1)
          rw [hbg] at hbl HPN HTN
          have HBG := Lib.hid hbg
          have hbw : IntKind.i64.wrap bg = bg := wrap_in (by omega) (by omega)
          have hsz := hK.size
          clear hu hux hx htn hpn hp HNW hK F hbg hbl
          go_upto_region 22 with (first | (go_at_call 41; (with_reducible refine (begin_any d us _ dA _ dc c2 _ _ S9.out hd x u HX.out HOX.out m now time HNOW.out ht0 ht1 bg HBG).mono ?_); rintro e w9 ⟨rfl, hk9⟩; have OO9 := Lib.hid (OO.out.keep hk9); have OB9 := Lib.hid (OB.out.below hk9 OB.out.lt); have SS9 := Lib.hid (S9.out.keep hk9); obtain ⟨_, _, _, cu9⟩ := HF.out w9 hk9; have KK9 := Lib.hid hk9; clear hk9) | (go_at_call 98; (with_reducible refine (write_any x _ w7.heap.size q q bg w7 _ OO9.out HXI.out (by omega)).mono ?_); rintro e w10 ⟨rfl, ho10, hg10⟩; have OO10 := Lib.hid ho10; have G10 := Lib.hid hg10; clear ho10 hg10))
          have K10 := Lib.hid (show Keeps w7 w10 from OO10.out.2)
          have S10 := Lib.hid (S7.out.keep K10.out)
          have OB10 := Lib.hid (OB9.out.grown G10.out (fun e => own_blk_ne OO9.out.1 OB9.out (by decide) (by rw [e]; rfl)))
          obtain ⟨ub', uo', hue, hub', _, _, F10⟩ := S10.out.reads HX.out
          cases hue
          have HF10 := Lib.hid F10
          obtain ⟨_, _, _, cu10⟩ := F10 w10 (Keeps.refl _)
          have d0 : w10.cell? ⟨bx, 0, none⟩ = some (.int .u32 (m : Int)) := OB10.out.cell 0
          have d1 : w10.cell? ⟨bx, 1, none⟩ = some (.int .i64 now) := OB10.out.cell 1
          clear F10 OO9 OB9 SS9 cu9 G10 cs HF
          go_region_law (first | (go_simp; go_at_call 42; (with_reducible refine (after_any d us _ dA _ dc c2 _ _ (S10.out.keep ((Keeps.refl w10).drew)) x u HX.out m now hm16 hu16).mono ?_); rintro e w11 ⟨rfl, hk11⟩; have hk11' := hk11; obtain ⟨_, _, _, cu11⟩ := HF10.out w11 (((Keeps.refl w10).drew).trans hk11); have OB11 := Lib.hid (OB10.out.below (((Keeps.refl w10).drew).trans hk11) OB10.out.lt); have O11 := Lib.hid (OO10.out.keep (((Keeps.refl w10).drew).trans hk11))) | (go_simp; go_at_call 96; (with_reducible refine (span_any x _).mono ?_); rintro e w12 ⟨rfl, hk12⟩; have OB12 := Lib.hid (OB11.out.below hk12 OB11.out.lt); have O12 := Lib.hid (O11.out.keep hk12); have y0 : w12.cell? ⟨bx, 0, none⟩ = some (.int .u32 (m : Int)) := OB12.out.cell 0; have y1 : w12.cell? ⟨bx, 1, none⟩ = some (.int .i64 now) := OB12.out.cell 1; have f6 := OB12.out.frozen))
          all_goals (
            have hbxs : w7.heap.size ≤ bx := HBX.out
            have B13 := Lib.hid (show Blk ((w12.setCell ⟨bx, 0, none⟩ (.int .u32 ((orN m u : Nat) : Int))).setCell ⟨bx, 1, none⟩ (.int .i64 x.2.1.o)) bx 94 #[.int .u32 ((orN m u : Nat) : Int), .int .i64 x.2.1.o] from (OB12.out.set_ 0 (.int .u32 ((orN m u : Nat) : Int))).set_ 1 (.int .i64 x.2.1.o))
            have O13 := Lib.hid (O12.out.grown (grown_set (grown_set (World.grownBy.refl w12 _) 0 (.int .u32 ((orN m u : Nat) : Int))) 1 (.int .i64 x.2.1.o)) (.inr (own_blk_ne O12.out.1 OB12.out (by decide))) (fun k hk => by cases hk; exact hbxs))
            clear y0 y1 f6 d0 d1 cu10 cu11 hk11 hk11' hk12 OB10 OB11 OB12 O11 O12 OO10 S10 HF10
            go_wp2_with fail
            go_roundw
            case rel => first | exact ⟨k + 1, by omega, by go_num, by rw [HTK.out, HPN.out], by rw [HTK.out, HPN.out]; exact B13.out, by rw [HTK.out, HTN.out]; exact O13.out⟩ | ((repeat apply Exists.intro); exact ⟨⟨k + 1, by omega, by go_num, by rw [HTK.out, HPN.out], by rw [HTK.out, HPN.out]; exact B13.out, by rw [HTK.out, HTN.out]; exact O13.out⟩, rfl⟩)
            case measure => simp [intOf]; omega)
        · have hkq : k = q := by omega
          subst hkq
          have hta : s.take k = s := List.take_of_length_le (by rw [SQ.out]; exact Nat.le_refl _)
          rw [hta] at OO
          clear hK
          go_wp2_with fail
          go_ret2
          obtain ⟨h1, h2⟩ := OO.out.recs intOk
          refine .inr ⟨s, some ⟨w7.heap.size, 0, none⟩, k, k, rfl, hln, ?_, K7.out.trans OO.out.2, HW.out, ?_, ?_, ?_⟩
          · rw [HUS.out, ← hln.out]; exact h1
          · rw [HUS.out]; exact OKP.out
          · rw [SQ.out]; exact hln.out
          · rw [HUS.out, ← hln.out, ← HUL.out]; exact HLAST.out
    | none =>
      have HQC := Lib.hid hqc
      clear hqc
      go_upto_region 12 with (first | (go_at_call 38; (with_reducible refine (precede_any d us _ dA A2 dc c2 (.slice none 0 0) _ P3.out HN16.out hd HOU.out).mono ?_); rintro e w4 ⟨hg4, hp4⟩; rw [HPC.out] at hp4; simp only at hp4; obtain ⟨rfl, fA, fc, hs4, hf4, hm4⟩ := hp4; have S4 := Lib.hid hs4; have F4 := Lib.hid hf4; have M4 := Lib.hid hm4; have K4 := Lib.hid (grown_keeps K3.out hg4 (fun k e => by cases e; exact KS.out)); clear hg4 hs4 hf4 hm4) | (go_at_call 39; (with_reducible refine (quick_is d us f _ dA A2 fA dc c2 fc _ S4.out F4.out M4.out HN16.out hd HOU.out none HQC).mono ?_); rintro e w5 ⟨qA, qn, qc, rfl, hk5⟩; have S5 := Lib.hid (S4.out.keep hk5); have F5 := Lib.hid (F4.out.keep hk5); have K5 := Lib.hid (K4.out.trans hk5); clear hk5) | (go_at_call 40; (with_reducible refine (full_is d us f _ dA A2 fA dc c2 fc _ S5.out F5.out M4.out HN16.out hd HD12.out HOU.out).mono ?_); rintro e w7 ⟨sA, q, sc, ok7, rfl, hk7, ho7⟩; have H7 := Lib.hid ho7; have S7 := Lib.hid (S5.out.keep hk7); have K7 := Lib.hid (K5.out.trans hk7); clear hk7 ho7))
      cases hok7 : ok7
      · go_wp2_with fail
        go_ret2
        exact .inl ⟨_, _, _, rfl, K7.out, fun f' s' _ h1 h2 => by rw [HUS.out, ← hln.out, ← HUL.out] at h1 h2; rw [HPC.out] at h1; cases h1; rw [HQC.out] at h2; cases h2⟩
      obtain ⟨s, hq7, hr7, okp, sl⟩ := H7.out hok7
      have HQ := Lib.hid hq7
      have R7 := Lib.hid hr7
      have OKP := Lib.hid okp
      have SL := Lib.hid sl
      clear hq7 hr7 okp sl H7
      have HLAST : Hid (∀ f' s', precJ d (plainU us) us.length = some f' → quickK d (plainU us) f' us.length = some s' → s = s') := Lib.hid (fun f' s' h1 h2 => by rw [HPC.out] at h1; cases h1; rw [HQC.out] at h2; cases h2)
      have hqn : q = n2 := by rw [HQ.out, SL.out, HUL.out]
      subst hqn
      have SQ := Lib.hid HQ.out.symm
      have HIX : Hid (∀ (u : Nat) (x : UnC), us[u]? = some x → x.1 < q) := Lib.hid (fun u x hx => by
        have hul : u < us.length := (List.getElem?_eq_some_iff.1 hx).1
        have h1 := ((units_ok l).at_ (k := u) (by rw [plainU_len, HUS.out]; exact hul)).1
        rw [HUS.out, (plainU_at hx).2.1] at h1
        have h2 := (List.getElem?_eq_some_iff.1 h1).1
        simp at h2
        rw [← hln.out] at h2
        exact h2)
      have mwr := meth_write
      have msp := meth_span
      go_wp2_with (at_make; refine wpList_makeR intOk (w0 := w7) rfl (.tmp 54) (.tmp 54) rfl 0 (.int .i64 0) (by kernel_rfl) rfl q rfl rfl (by omega) (Keeps.refl _) ?_; intro w8 ho8 hg8; have O8 := Lib.hid ho8; clear ho8 hg8)
      have O9 := Lib.hid (O8.out.keep ((Keeps.refl w8).alloc (.cells #[.int .u32 0, .int .i64 (-1)] 94)))
      have B9 := Lib.hid (Blk.new w8 94 #[.int .u32 0, .int .i64 (-1)])
      have HBX := Lib.hid (show w7.heap.size ≤ w8.heap.size from O8.out.2.size)
      clear O8
      generalize hbx : w8.heap.size = bx at *
      clear hbx
      go_loopw [14, 16, 17, 59] (fun t _ _ c wr => ∃ k : Nat, k ≤ q ∧ c = .int .i64 (k : Int) ∧ t = .int .i64 (pathF d (plainU us) (s.take k)).2.2 ∧ Blk wr bx 94 #[.int .u32 ((pathF d (plainU us) (s.take k)).1 : Int), .int .i64 (pathF d (plainU us) (s.take k)).2.1] ∧ OwnR intR w7 wr (.slice (some ⟨w7.heap.size, 0, none⟩) q q) (timesF d (plainU us) q (s.take k))) (fun _ _ _ c _ => q - (intOf c).toNat)
      case atStart => exact ⟨0, by omega, rfl, rfl, B9.out, O9.out⟩
      case round =>
        clear B9 O9
        obtain ⟨k, hk, rfl, rfl, hB, hO⟩ := hrel
        have OB := Lib.hid hB; have OO := Lib.hid hO
        have hK : Keeps w7 wr := hO.2
        clear hB hO
        by_cases hkn : k < q
        · have hki : (k : Int) < (q : Int) := by omega
          have hk0 : (0 : Int) ≤ (k : Int) := by omega
          have hkw : IntKind.i64.wrap ((k : Int) + 1) = (k : Int) + 1 := wrap_in (by omega) (by omega)
          obtain ⟨u, hu⟩ : ∃ u, s[k]? = some u := ⟨_, List.getElem?_eq_getElem (by rw [SQ.out]; exact hkn)⟩
          have hux := OKP.out k u hu
          have hun : u < us.length := by have := hux.1; rwa [plainU_len] at this
          obtain ⟨x, hx⟩ : ∃ x, us[u]? = some x := ⟨_, List.getElem?_eq_getElem hun⟩
          have HTK := Lib.hid (show s.take (k + 1) = s.take k ++ [u] by rw [List.take_add_one, hu]; rfl)
          have hst := path_st HN16.out HOU.out (s.take k).length (s.take k) rfl (by have h := OKP.out; rw [← List.take_append_drop k s] at h; exact okP_pre h)
          have htn := times_snoc d (plainU us) q (s.take k) u
          have hpn := pathF_snoc d (plainU us) (s.take k) u
          obtain ⟨⟨m, now, time⟩, hp⟩ : ∃ st, pathF d (plainU us) (s.take k) = st := ⟨_, rfl⟩
          rw [hp] at hst hux hpn OB
          rw [hp]
          simp only at OB
          simp only
          unfold stepU at hpn
          rw [(plainU_at hx).1] at hpn
          simp only at hpn
          rw [hpn, (plainU_at hx).2.1] at htn
          simp only at htn
          have HPN := Lib.hid hpn
          have HTN := Lib.hid htn
          have HX := Lib.hid hx
          have HOX := Lib.hid (HOU.out x (List.mem_of_getElem? hx))
          have HXI := Lib.hid (HIX.out u x hx)
          have hu16 : u < 16 := by have := HN16.out; omega
          obtain ⟨hm16, HNW, ht0, ht1⟩ := hst
          simp only at hm16 HNW ht0 ht1
          have HNOW := Lib.hid HNW
          obtain ⟨sb, so, rfl, hsb, cs⟩ := (R7.out.keep hK).nat hu
          obtain ⟨ub, uo, huA, hub, _, _, F⟩ := (S7.out.keep hK).reads HX.out
          subst huA
          have HF := Lib.hid F
          have S9 := Lib.hid (S7.out.keep hK)
          have d0 : wr.cell? ⟨bx, 0, none⟩ = some (.int .u32 (m : Int)) := OB.out.cell 0
          have d1 : wr.cell? ⟨bx, 1, none⟩ = some (.int .i64 now) := OB.out.cell 1
          have hu01 : (0 : Int) ≤ (u : Int) ∧ (u : Int) < (q : Int) := ⟨by omega, by have := HUL.out; omega⟩
          obtain ⟨bg, hbg⟩ : ∃ bg, beginF d now time x.2.1 = bg := ⟨_, rfl⟩
          have hbl := begin_le (d := d) (now := now) (time := time) (e := x.2.1)
          rw [hbg] at hbl HPN HTN
          have HBG := Lib.hid hbg
          have hbw : IntKind.i64.wrap bg = bg := wrap_in (by omega) (by omega)
          have hsz := hK.size
          clear hu hux hx htn hpn hp HNW hK F hbg hbl
          go_upto_region 22 with (first | (go_at_call 41; (with_reducible refine (begin_any d us _ dA _ dc c2 _ _ S9.out hd x u HX.out HOX.out m now time HNOW.out ht0 ht1 bg HBG).mono ?_); rintro e w9 ⟨rfl, hk9⟩; have OO9 := Lib.hid (OO.out.keep hk9); have OB9 := Lib.hid (OB.out.below hk9 OB.out.lt); have SS9 := Lib.hid (S9.out.keep hk9); obtain ⟨_, _, _, cu9⟩ := HF.out w9 hk9; have KK9 := Lib.hid hk9; clear hk9) | (go_at_call 98; (with_reducible refine (write_any x _ w7.heap.size q q bg w7 _ OO9.out HXI.out (by omega)).mono ?_); rintro e w10 ⟨rfl, ho10, hg10⟩; have OO10 := Lib.hid ho10; have G10 := Lib.hid hg10; clear ho10 hg10))
          have K10 := Lib.hid (show Keeps w7 w10 from OO10.out.2)
          have S10 := Lib.hid (S7.out.keep K10.out)
          have OB10 := Lib.hid (OB9.out.grown G10.out (fun e => own_blk_ne OO9.out.1 OB9.out (by decide) (by rw [e]; rfl)))
          obtain ⟨ub', uo', hue, hub', _, _, F10⟩ := S10.out.reads HX.out
          cases hue
          have HF10 := Lib.hid F10
          obtain ⟨_, _, _, cu10⟩ := F10 w10 (Keeps.refl _)
          have d0 : w10.cell? ⟨bx, 0, none⟩ = some (.int .u32 (m : Int)) := OB10.out.cell 0
          have d1 : w10.cell? ⟨bx, 1, none⟩ = some (.int .i64 now) := OB10.out.cell 1
          clear F10 OO9 OB9 SS9 cu9 G10 cs HF
          go_region_law (first | (go_simp; go_at_call 42; (with_reducible refine (after_any d us _ dA _ dc c2 _ _ (S10.out.keep ((Keeps.refl w10).drew)) x u HX.out m now hm16 hu16).mono ?_); rintro e w11 ⟨rfl, hk11⟩; have hk11' := hk11; obtain ⟨_, _, _, cu11⟩ := HF10.out w11 (((Keeps.refl w10).drew).trans hk11); have OB11 := Lib.hid (OB10.out.below (((Keeps.refl w10).drew).trans hk11) OB10.out.lt); have O11 := Lib.hid (OO10.out.keep (((Keeps.refl w10).drew).trans hk11))) | (go_simp; go_at_call 96; (with_reducible refine (span_any x _).mono ?_); rintro e w12 ⟨rfl, hk12⟩; have OB12 := Lib.hid (OB11.out.below hk12 OB11.out.lt); have O12 := Lib.hid (O11.out.keep hk12); have y0 : w12.cell? ⟨bx, 0, none⟩ = some (.int .u32 (m : Int)) := OB12.out.cell 0; have y1 : w12.cell? ⟨bx, 1, none⟩ = some (.int .i64 now) := OB12.out.cell 1; have f6 := OB12.out.frozen))
          all_goals (
            have hbxs : w7.heap.size ≤ bx := HBX.out
            have B13 := Lib.hid (show Blk ((w12.setCell ⟨bx, 0, none⟩ (.int .u32 ((orN m u : Nat) : Int))).setCell ⟨bx, 1, none⟩ (.int .i64 x.2.1.o)) bx 94 #[.int .u32 ((orN m u : Nat) : Int), .int .i64 x.2.1.o] from (OB12.out.set_ 0 (.int .u32 ((orN m u : Nat) : Int))).set_ 1 (.int .i64 x.2.1.o))
            have O13 := Lib.hid (O12.out.grown (grown_set (grown_set (World.grownBy.refl w12 _) 0 (.int .u32 ((orN m u : Nat) : Int))) 1 (.int .i64 x.2.1.o)) (.inr (own_blk_ne O12.out.1 OB12.out (by decide))) (fun k hk => by cases hk; exact hbxs))
            clear y0 y1 f6 d0 d1 cu10 cu11 hk11 hk11' hk12 OB10 OB11 OB12 O11 O12 OO10 S10 HF10
            go_wp2_with fail
            go_roundw
            case rel => first | exact ⟨k + 1, by omega, by go_num, by rw [HTK.out, HPN.out], by rw [HTK.out, HPN.out]; exact B13.out, by rw [HTK.out, HTN.out]; exact O13.out⟩ | ((repeat apply Exists.intro); exact ⟨⟨k + 1, by omega, by go_num, by rw [HTK.out, HPN.out], by rw [HTK.out, HPN.out]; exact B13.out, by rw [HTK.out, HTN.out]; exact O13.out⟩, rfl⟩)
            case measure => simp [intOf]; omega)
        · have hkq : k = q := by omega
          subst hkq
          have hta : s.take k = s := List.take_of_length_le (by rw [SQ.out]; exact Nat.le_refl _)
          rw [hta] at OO
          clear hK
          go_wp2_with fail
          go_ret2
          obtain ⟨h1, h2⟩ := OO.out.recs intOk
          refine .inr ⟨s, some ⟨w7.heap.size, 0, none⟩, k, k, rfl, hln, ?_, K7.out.trans OO.out.2, HW.out, ?_, ?_, ?_⟩
          · rw [HUS.out, ← hln.out]; exact h1
          · rw [HUS.out]; exact OKP.out
          · rw [SQ.out]; exact hln.out
          · rw [HUS.out, ← hln.out, ← HUL.out]; exact HLAST.out
end Go.Proofs.Ythkmpegpmpdhaaa
