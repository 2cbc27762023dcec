/- Part of the proof of TopOwnItem. Conditions: as stated in each theorem. -/
import Derived.Test.YthkmpegpmpdhaaaGreatDoorZGl
import Derived.Test.YthkmpegpmpdhaaaGreatDoorProg
import Derived.WalkMore
import Derived.Maps.OwnIn
import Derived.Deep.LoopGhost
import Derived.RangeFuncNested
import Derived.RangeFuncCalls
import Derived.RangeFuncLeaves
import Derived.RangeFuncWrites
import Derived.Shelf.Abstract
import Derived.Shelf.RegionOpen
import Derived.OwnWalkIn
import Derived.TacticsInMore
import Derived.LoopNIn
import Derived.LoopIn
import Derived.RangeFuncBound
import Derived.WalkKit
import Derived.WalkSpells
import Derived.WalkLawsBesides
import Derived.Laws.EntriesVeiled
import Derived.ProofKit
import Derived.OpenShut
import Derived.Lib.Hide
import Derived.BigQuiet
import Derived.Deep.QuietTactic
import Derived.Deep.CutRange
import Derived.StillTailTactics
import Derived.Lib.SliceRun
import Derived.RangeFuncRecord
import Derived.Carry
import Derived.ChangeKeysEq
import Derived.Below
import Derived.Laws.OwnMore
import Derived.Deep.AppendLies
import Derived.Deep.Draws
import Derived.Laws.Rows
import Derived.Maps.AppendAt
import Derived.RegionTactic
import Derived.OwnWalk
import Derived.Deep.RegionHeld3
namespace Go.Proofs.YthkmpegpmpdhaaaGreatDoor
open Go.Shelf Go.ChangeShapes Go.WideShapes Go.ChangeAt Go.RowKit
set_option linter.unusedSimpArgs false
set_option linter.unusedVariables false
set_option maxRecDepth 100000 in
set_option maxHeartbeats 16000000 in
theorem obs89 (ts : List Trk) (tA : Option Addr) (n c mb N : Nat) (w : World) (hT : RecIn tkR w N tA ts) (hok : ∀ t ∈ ts, TrkOk w N t) (hN : N ≤ w.heap.size) (hn : Hid (n = ts.length)) (hnx : n ≤ 1000) (hwf : ∀ t ∈ ts, WfT t) (hst : ∀ t ∈ ts, t.st.length ≤ 1000) (hsi : ∀ t ∈ ts, t.si.length ≤ 1000) (hmb : Blk w mb 47 #[.slice tA n c]) :
    SeqO Tryz.prog 89 #[.pointer (some ⟨mb, 0, none⟩)] encO (fun k => k < N ∨ k = mb) givO PrO (fun xs => ∃ rest, obsO ts n n = xs.map Obs.ob ++ rest) (fun xs => xs.map Obs.ob = obsO ts n n) w := by
  intro lo J W own0 hW hJ ho0 hkp hY hJ0
  have HY := Lib.hid hY
  have HJA := Lib.hid hJ
  have HWF := Lib.hid hwf
  have HST := Lib.hid hst
  have HSI := Lib.hid hsi
  have hmb' := hmb.below hW hmb.lt
  have k1 := (Keeps.refl W).alloc (.cells #[.func (.yield lo) #[] #[]] 187)
  have hyb1 := Blk.new W 187 #[.func (.yield lo) #[] #[]]
  have hT1 : RecIn tkR (W.alloc (.cells #[.func (.yield lo) #[] #[]] 187)) N tA ts := (hT.below (hW.mono hN)).below (k1.mono (Nat.le_trans hN hW.size))
  have hok1 : ∀ t ∈ ts, TrkOk (W.alloc (.cells #[.func (.yield lo) #[] #[]] 187)) N t := fun t ht => by
    have h := hok t ht
    have f : ∀ {α : Type} {R : RowTy α} {A : Option Addr} {l : List α}, RecIn R w N A l → RecIn R (W.alloc (.cells #[.func (.yield lo) #[] #[]] 187)) N A l := fun hh => (hh.below (hW.mono hN)).below (k1.mono (Nat.le_trans hN hW.size))
    exact ⟨f h.st, f h.si, f h.lb, f h.se⟩
  have hNN : N ≤ (W.alloc (.cells #[.func (.yield lo) #[] #[]] 187)).heap.size := Nat.le_trans (Nat.le_trans hN hW.size) k1.size
  have HC := Lib.hid (containers90 ts tA n c (W.alloc (.cells #[.func (.yield lo) #[] #[]] 187)) (hT1.more hNN) hn hnx (fun t ht => ⟨(hok1 t ht).more hNN, hwf t ht, hsi t ht⟩) hst)
  have hmb1 := hmb'.below k1 hmb'.lt
  have O1 := Lib.hid (fun (m : Nat) (F : ByteArray → Option Cel) (W2 : World) (h : Cons (W.alloc (.cells #[.func (.yield lo) #[] #[]] 187)) W2 m F) => (show ObI N mb W.heap.size lo tA n c ts m F W2 own0 from
    ⟨hT1.below (h.keep.mono hNN), fun t ht => by
      have hh := hok1 t ht
      exact ⟨hh.st.below (h.keep.mono hNN), hh.si.below (h.keep.mono hNN), hh.lb.below (h.keep.mono hNN), hh.se.below (h.keep.mono hNN)⟩, fun k hk => hkp k (.inl hk), Nat.le_trans hNN h.keep.size, hmb1.below h.keep hmb1.lt, hkp mb (.inr rfl), hyb1.below h.keep hyb1.lt, fun e => by have := ho0 _ e; omega, ConsR.of h (fun k hk => Nat.lt_of_lt_of_le (ho0 k hk) k1.size)⟩))
  have J1 := Lib.hid (fun (W2 : World) (h : Keeps (W.alloc (.cells #[.func (.yield lo) #[] #[]] 187)) W2) => hJ.keeps hJ0 (k1.trans h))
  have HO0 := Lib.hid ho0
  have KS := Lib.hid k1.size
  have HMB := Lib.hid hmb1
  have cmb := hmb1.cell 0
  obtain ⟨yb, hyb⟩ : ∃ yb, W.heap.size = yb := ⟨_, rfl⟩
  have HYBE := Lib.hid hyb
  rw [hyb] at O1
  change Calls Tryz.prog 89 #[.func (.yield lo) #[] #[], .pointer (some ⟨mb, 0, none⟩)] W _
  clear hT hok hwf hst hsi hmb hmb' k1 hyb1 hT1 hok1 hNN hmb1 hY hJ hJ0 hkp ho0
  go_enter Tryz.func89, Tryz.ntmps89
  go_upto_region 1 with fail
  generalize W.alloc (.cells #[.func (.yield lo) #[] #[]] 187) = W1 at *
  go_upto_region 2 with (go_at_call 90; (with_reducible refine HC.out.mono ?_); rintro e W2 ⟨m, F, rfl, hC, hF⟩; have HCC := Lib.hid hC; have HF := Lib.hid hF; clear hC hF)
  have cmb2 := ((HMB.out.below HCC.out.keep HMB.out.lt).cell 0)
  have RO := Lib.hid (show ∃ pre own, J pre own W2 ∧ (∀ k, own k → k < W2.heap.size) ∧ ObI N mb yb lo tA n c ts m F W2 own ∧ pre.map Obs.ob = obsO ts n 0 from ⟨[], own0, J1.out _ HCC.out.keep, fun k hk => Nat.lt_of_lt_of_le (Nat.lt_of_lt_of_le (HO0.out k hk) KS.out) HCC.out.keep.size, O1.out m F W2 HCC.out, rfl⟩)
  clear J1 O1 HO0 KS HMB HC
  go_wp2_with fail
  clear cmb cmb2
  go_loopw [16] (fun i wx => ∃ (k : Nat) (pre : List Obs) (own : Nat → Prop), k ≤ n ∧ i = .int .i64 (k : Int) ∧ J pre own wx ∧ (∀ k, own k → k < wx.heap.size) ∧ ObI N mb yb lo tA n c ts m F wx own ∧ pre.map Obs.ob = obsO ts n k) (fun i _ => n - (intOf i).toNat)
  case atStart => obtain ⟨pre, own, h1, h2, h3, h4⟩ := RO.out; exact ⟨0, pre, own, by omega, rfl, h1, h2, h3, h4⟩
  case round =>
    obtain ⟨k, pre, own, hk, rfl, hJr, hob, hO, hpre⟩ := hrel
    clear RO
    have HJr := Lib.hid hJr; have HOB := Lib.hid hob; have HO := Lib.hid hO; have HPRE := Lib.hid hpre
    have hnl := hn.out
    clear hJr hob hO hpre
    by_cases hkn : k < n
    · obtain ⟨t, ht⟩ : ∃ t, ts[k]? = some t := ⟨_, List.getElem?_eq_getElem (by omega)⟩
      have HTK := Lib.hid ht
      have hmem := List.mem_of_getElem? ht
      obtain ⟨b, o, e0', hb2, e0, e1, e2, e3, e4, e5, e6, e7, e8, e9⟩ := HO.out.tr.trk ht
      subst e0'
      have kn : (k : Int) < (n : Int) := by omega
      have k0 : (0 : Int) ≤ (k : Int) := by omega
      have kw : IntKind.i64.wrap ((k : Int) + 1) = (k : Int) + 1 := wrap_in (by omega) (by omega)
      have HW1 := Lib.hid (HWF.out t hmem)
      have HLN := Lib.hid (show t.st.length = t.se.length + 1 by have := HW1.out.1; simp only [stopsF, Bool.and_eq_true, decide_eq_true_eq] at this; exact this.1)
      have HST1 := Lib.hid (HST.out t hmem)
      have HSI1 := Lib.hid (HSI.out t hmem)
      have HMEM := Lib.hid hmem
      have HLA := Lib.hid (fun (time : Int) (X : World) (hX : TrkOk X X.heap.size t) => labelAt92 t time X hX (by have := HSI1.out; omega) HW1.out.2.2.1 HW1.out.2.2.2.1)
      obtain ⟨T, hT⟩ : ∃ T : Trk, T = t := ⟨_, rfl⟩
      have HTT := Lib.hid (show T.st = t.st ∧ T.se = t.se ∧ T.si = t.si ∧ T.lb = t.lb ∧ T.stA = t.stA ∧ T.seA = t.seA by rw [hT]; exact ⟨rfl, rfl, rfl, rfl, rfl, rfl⟩)
      have HTX := Lib.hid (show ts[k]? = some T ∧ T ∈ ts by rw [hT]; exact ⟨HTK.out, HMEM.out⟩)
      rw [← hT] at HW1 HLN HST1 HSI1
      have HTOK := Lib.hid (fun (X : World) (own : Nat → Prop) (h : ObI N mb yb lo (some ⟨b, o, none⟩) n c ts m F X own) => h.ok T HTX.out.2)
      have HTE := Lib.hid hT
      obtain ⟨pl, pf, pt, pc, pa, st, stA, stc, lost, si, siA, sic, lb, lbA, lbc, se, seA, sec⟩ := t
      simp only at e0 e1 e2 e3 e4 e5 e6 e7 e8 e9 HTT
      obtain ⟨S, hS⟩ : ∃ S, se.length = S := ⟨_, rfl⟩
      obtain ⟨P, hP⟩ : ∃ P, st.length = P := ⟨_, rfl⟩
      replace HLA := Lib.hid (show ∀ (time : Int) (X : World), TrkOk X X.heap.size T → Calls Tryz.prog 92 #[.agg #[.string pl, .int .i64 pf, .int .i64 pt, .int .i64 pc, .int .i64 pa, .slice stA st.length stc, .bool lost, .slice siA si.length sic, .slice lbA lb.length lbc, .slice seA se.length sec], .int .i64 time] X (fun e w' => e = .returned (.string (labR time T.si T.lb)) ∧ Keeps X w') from by rw [hT]; exact HLA.out)
      have HS := Lib.hid hS; have HP := Lib.hid hP
      have HB := Blk.new wr 64 #[.string pl, .int .i64 pf, .int .i64 pt, .int .i64 pc, .int .i64 pa, .slice stA st.length stc, .bool lost, .slice siA si.length sic, .slice lbA lb.length lbc, .slice seA se.length sec]
      have KT := Lib.hid ((Keeps.refl wr).alloc (.cells #[.string pl, .int .i64 pf, .int .i64 pt, .int .i64 pc, .int .i64 pa, .slice stA st.length stc, .bool lost, .slice siA si.length sic, .slice lbA lb.length lbc, .slice seA se.length sec] 64))
      obtain ⟨tb, htb⟩ : ∃ tb, wr.heap.size = tb := ⟨_, rfl⟩
      have NTB := Lib.hid (show ¬ own tb from fun e => by have := HOB.out _ e; omega)
      rw [htb] at HB
      rw [hS, hP] at HB KT HLA
      rw [hS] at e9
      rw [hP] at e5
      clear ht hmem hnl hT
      go_upto_region 6 with fail
      clear e0 e1 e2 e3 e4 e5 e6 e7 e8 e9
      have J1 := Lib.hid (HJA.out.keeps HJr.out KT.out)
      have O1 := Lib.hid (HO.out.rel (Rel.keeps KT.out))
      have B1 := Lib.hid (fun k hk => Nat.lt_of_lt_of_le (HOB.out k hk) KT.out.size)
      generalize wr.alloc (.cells #[.string pl, .int .i64 pf, .int .i64 pt, .int .i64 pc, .int .i64 pa, .slice stA P stc, .bool lost, .slice siA si.length sic, .slice lbA lb.length lbc, .slice seA S sec] 64) = X1 at *
      have D5 := HB.cell 5
      have D9 := HB.cell 9
      obtain ⟨CE, hCE⟩ : ∃ CE : Array Value, CE = #[.string pl, .int .i64 pf, .int .i64 pt, .int .i64 pc, .int .i64 pa, .slice stA P stc, .bool lost, .slice siA si.length sic, .slice lbA lb.length lbc, .slice seA S sec] := ⟨_, rfl⟩
      have HCE := Lib.hid (show CE[0]? = some (.string pl) ∧ CE[1]? = some (.int .i64 pf) ∧ CE[2]? = some (.int .i64 pt) ∧ CE[3]? = some (.int .i64 pc) ∧ CE[4]? = some (.int .i64 pa) ∧ CE[5]? = some (.slice stA P stc) ∧ CE[6]? = some (.bool lost) ∧ CE[7]? = some (.slice siA si.length sic) ∧ CE[8]? = some (.slice lbA lb.length lbc) ∧ CE[9]? = some (.slice seA S sec) by rw [hCE]; exact ⟨rfl, rfl, rfl, rfl, rfl, rfl, rfl, rfl, rfl, rfl⟩)
      rw [← hCE] at HB
      have HBT := Lib.hid HB
      clear hCE HB htb hS hP
      go_wp2_with fail
      clear D5 D9
      go_loopw [24] (fun i wx => ∃ (j : Nat) (pre : List Obs) (own : Nat → Prop), j ≤ P ∧ i = .int .i64 (j : Int) ∧ J pre own wx ∧ (∀ k, own k → k < wx.heap.size) ∧ ObI N mb yb lo (some ⟨b, o, none⟩) n c ts m F wx own ∧ Blk wx tb 64 CE ∧ ¬ own tb ∧ pre.map Obs.ob = obsO ts n k ++ rowO ts n k T j) (fun i _ => P - (intOf i).toNat)
      case atStart => exact ⟨0, pre, own, by omega, rfl, J1.out, B1.out, O1.out, HBT.out, NTB.out, by rw [HPRE.out]; simp [rowO]⟩
      case round =>
        clear J1 O1 B1 HBT NTB HPRE HO HOB HJr KT
        obtain ⟨j, pre, own, hj, rfl, hJr, hob, hO, hBt, hnt, hpre⟩ := hrel
        have HJr := Lib.hid hJr; have HOB := Lib.hid hob; have HO := Lib.hid hO; have HPRE := Lib.hid hpre
        have HBT := Lib.hid hBt; have HNT := Lib.hid hnt
        clear hJr hob hO hpre hBt hnt
        by_cases hjP : j < P
        · obtain ⟨s, hs⟩ : ∃ s, T.st[j]? = some s := ⟨_, List.getElem?_eq_getElem (by rw [HTT.out.1]; have := HP.out; omega)⟩
          obtain ⟨b2, o2, es, hb2, s0, s1, s2, s3⟩ := (HTOK.out wr own HO.out).st.stp hs
          rw [HTT.out.2.2.2.2.1] at es
          subst es
          have HSPL := Lib.hid (obs_split HTX.out.1 hs hn.out)
          have HRS := Lib.hid (rowO_succ (ts := ts) (n := n) (i := k) hs)
          have HSS := Lib.hid (show stopO ts n k T j s = stopO ts n k T j s from rfl)
          have jP : (j : Int) < (P : Int) := by omega
          have j0 : (0 : Int) ≤ (j : Int) := by omega
          have P1000 : P ≤ 1000 := by have := HP.out; have := HST1.out; rw [HTT.out.1] at this; omega
          have jw : IntKind.i64.wrap ((j : Int) + 1) = (j : Int) + 1 := wrap_in (by omega) (by omega)
          obtain ⟨so, sa, sd, sl⟩ := s
          simp only at s0 s1 s2 s3
          have HSB := Blk.new wr 192 #[.int .i64 so, .int .i64 sa, .int .i64 sd, .int .i64 sl]
          have K2 := Lib.hid ((Keeps.refl wr).alloc (.cells #[.int .i64 so, .int .i64 sa, .int .i64 sd, .int .i64 sl] 192))
          obtain ⟨sb, hsb⟩ : ∃ sb, wr.heap.size = sb := ⟨_, rfl⟩
          have NSB := Lib.hid (show ¬ own sb from fun e => by have := HOB.out _ e; omega)
          rw [hsb] at HSB
          clear hs
          go_upto_region 9 with fail
          have J2 := Lib.hid (HJA.out.keeps HJr.out K2.out)
          have O2 := Lib.hid (HO.out.rel (Rel.keeps K2.out))
          have B2 := Lib.hid (fun k hk => Nat.lt_of_lt_of_le (HOB.out k hk) K2.out.size)
          have T2 := Lib.hid (HBT.out.rel (Rel.keeps K2.out) HNT.out)
          have S2 := Lib.hid HSB
          clear s0 s1 s2 s3 HJr HO HOB HBT HSB hsb
          generalize wr.alloc (.cells #[.int .i64 so, .int .i64 sa, .int .i64 sd, .int .i64 sl] 192) = X2 at *
          obtain ⟨L1, hL1⟩ : ∃ L, labR sa T.si T.lb = L := ⟨_, rfl⟩
          have CLA := Lib.hid (show ∀ X, Keeps X2 X → Calls Tryz.prog 92 #[.agg #[.string pl, .int .i64 pf, .int .i64 pt, .int .i64 pc, .int .i64 pa, .slice (some ⟨b2, o2, none⟩) P stc, .bool lost, .slice siA si.length sic, .slice lbA lb.length lbc, .slice seA S sec], .int .i64 sa] X (fun e w' => e = .returned (.string L1) ∧ Keeps X w') from fun X hX => by
            have h := HLA.out sa X (((HTOK.out X2 own O2.out).rel (o' := own) (Rel.keeps hX) O2.out.le O2.out.low).more (Nat.le_trans O2.out.le hX.size))
            rwa [hL1] at h)
          have HX1 := Lib.hid (show ∃ rest, stopO ts n k T j ⟨so, sa, sd, sl⟩ = ⟨so, 1, sa, L1, []⟩ :: rest from by rw [← hL1]; exact ⟨_, rfl⟩)
          have SE1 := Lib.hid (show ∀ X, Keeps X2 X → Calls Tryz.prog 91 #[.int .i64 so, .int .i64 1, .int .i64 sa, .string L1, .slice none 0 0, .pointer (some ⟨yb, 0, none⟩)] X (fun e W' => e = .returned (.bool true) ∧ SeeR J (pre ++ [⟨⟨so, 1, sa, L1, []⟩, none, 0⟩]) X2 own W') from fun X hX =>
            see_step (T := fun xs => ∃ rest, obsO ts n n = xs.map Obs.ob ++ rest) ⟨⟨so, 1, sa, L1, []⟩, none, 0⟩ HJA.out J2.out B2.out HY.out O2.out.hyb hX (RecIn.nil _) (fun k hk => absurd rfl hk.1) (by
              obtain ⟨r, hr⟩ := HSPL.out
              obtain ⟨r1, hr1⟩ := HX1.out
              exact ⟨r1 ++ r, by rw [hr, hr1, List.map_append, HPRE.out]; simp⟩))
          have cs0 := S2.out.cell 0
          have cs1 := S2.out.cell 1
          have SOF := Lib.hid (show ∀ X : World, (X.heap[sb]? = X2.heap[sb]? ∧ X.heap[tb]? = X2.heap[tb]?) → (fun w' : World => w'.cell? ⟨sb, 0, none⟩ = some (.int .i64 so) ∧ w'.cell? ⟨sb, 1, none⟩ = some (.int .i64 sa) ∧ w'.cell? ⟨tb, 0, none⟩ = some (.string pl) ∧ w'.cell? ⟨tb, 1, none⟩ = some (.int .i64 pf) ∧ w'.cell? ⟨tb, 2, none⟩ = some (.int .i64 pt) ∧ w'.cell? ⟨tb, 3, none⟩ = some (.int .i64 pc) ∧ w'.cell? ⟨tb, 4, none⟩ = some (.int .i64 pa) ∧ w'.cell? ⟨tb, 5, none⟩ = some (.slice (some ⟨b2, o2, none⟩) P stc) ∧ w'.cell? ⟨tb, 6, none⟩ = some (.bool lost) ∧ w'.cell? ⟨tb, 7, none⟩ = some (.slice siA si.length sic) ∧ w'.cell? ⟨tb, 8, none⟩ = some (.slice lbA lb.length lbc) ∧ w'.cell? ⟨tb, 9, none⟩ = some (.slice seA S sec)) X from fun X hX => by
            have a : Blk X sb 192 #[.int .i64 so, .int .i64 sa, .int .i64 sd, .int .i64 sl] := hX.1.trans S2.out
            have d : Blk X tb 64 CE := hX.2.trans T2.out
            exact ⟨a.cell 0, a.cell 1, (d.cell 0).trans HCE.out.1, (d.cell 1).trans HCE.out.2.1, (d.cell 2).trans HCE.out.2.2.1, (d.cell 3).trans HCE.out.2.2.2.1, (d.cell 4).trans HCE.out.2.2.2.2.1, (d.cell 5).trans HCE.out.2.2.2.2.2.1, (d.cell 6).trans HCE.out.2.2.2.2.2.2.1, (d.cell 7).trans HCE.out.2.2.2.2.2.2.2.1, (d.cell 8).trans HCE.out.2.2.2.2.2.2.2.2.1, (d.cell 9).trans HCE.out.2.2.2.2.2.2.2.2.2⟩)
          have LTS := Lib.hid (show sb < X2.heap.size ∧ tb < X2.heap.size from ⟨S2.out.lt, T2.out.lt⟩)
          have LT5 := Lib.hid (show ∀ w5, SeeR J (pre ++ [⟨⟨so, 1, sa, L1, []⟩, none, 0⟩]) X2 own w5 → (w5.heap[sb]? = X2.heap[sb]? ∧ w5.heap[tb]? = X2.heap[tb]?) from fun w5 h => by
            obtain ⟨own', h1, hr, h3⟩ := h
            exact ⟨(hr.2 _ LTS.out.1 NSB.out).1, (hr.2 _ LTS.out.2 HNT.out).1⟩)
          clear cs0 cs1
          go_region_held3 (fun w' : World => w'.cell? ⟨sb, 0, none⟩ = some (.int .i64 so) ∧ w'.cell? ⟨sb, 1, none⟩ = some (.int .i64 sa) ∧ w'.cell? ⟨tb, 0, none⟩ = some (.string pl) ∧ w'.cell? ⟨tb, 1, none⟩ = some (.int .i64 pf) ∧ w'.cell? ⟨tb, 2, none⟩ = some (.int .i64 pt) ∧ w'.cell? ⟨tb, 3, none⟩ = some (.int .i64 pc) ∧ w'.cell? ⟨tb, 4, none⟩ = some (.int .i64 pa) ∧ w'.cell? ⟨tb, 5, none⟩ = some (.slice (some ⟨b2, o2, none⟩) P stc) ∧ w'.cell? ⟨tb, 6, none⟩ = some (.bool lost) ∧ w'.cell? ⟨tb, 7, none⟩ = some (.slice siA si.length sic) ∧ w'.cell? ⟨tb, 8, none⟩ = some (.slice lbA lb.length lbc) ∧ w'.cell? ⟨tb, 9, none⟩ = some (.slice seA S sec)) ((refine SOF.out _ ?_; (first | exact ⟨rfl, rfl⟩ | assumption))) ((first | (go_at_call 92; (with_reducible refine (CLA.out X2.drew (Keeps.refl X2).drew).mono ?_); rintro e w4 ⟨rfl, hk4'⟩; have hk4 : Keeps X2 w4 := ((Keeps.refl X2).drew).trans hk4'; have hs4 : w4.heap[sb]? = X2.heap[sb]? ∧ w4.heap[tb]? = X2.heap[tb]? := ⟨hk4.block _ LTS.out.1, hk4.block _ LTS.out.2⟩; clear hk4') | (go_at_call 91; (with_reducible refine (SE1.out w4 hk4).mono ?_); rintro e w5 ⟨rfl, hs5'⟩; have HS5 := Lib.hid hs5'; have hs5 := LT5.out w5 hs5'; clear hs5')))
          rename_i hH
          clear hH hs5 hs4 hk4
          obtain ⟨own5, hJ5, hr5, hb5⟩ := HS5.out
          have J5 := Lib.hid hJ5
          have B5 := Lib.hid hb5
          have O5 := Lib.hid (O2.out.rel hr5)
          have T5 := Lib.hid (T2.out.rel hr5 HNT.out)
          have NT5 := Lib.hid ((hr5.2 _ LTS.out.2 HNT.out).2)
          have S5 := Lib.hid (S2.out.rel hr5 NSB.out)
          have NS5 := Lib.hid ((hr5.2 _ LTS.out.1 NSB.out).2)
          have HS := Lib.hid HS.out
          have hSP : S + 1 = P := by have := HS.out; have := HP.out; have := HLN.out; rw [HTT.out.1, HTT.out.2.1] at this; omega
          have HSP := Lib.hid hSP
          have HST5 := Lib.hid (show stopO ts n k T j ⟨so, sa, sd, sl⟩ = ⟨so, 1, sa, L1, []⟩ :: (match T.se[j]? with
            | none => []
            | some q => match allC ts n q with
              | none => []
              | some c => if c.tr = k ∧ c.sp = j then [⟨so, 2, sd, q, contF ts c.fr.de c.ins⟩, ⟨c.to_.of_, 1, c.to_.ar, q, []⟩] else []) from by rw [← hL1]; rfl)
          clear hJ5 hb5 hr5 HS5 CLA SE1 SOF LT5 J2 B2 O2 T2 S2 HX1 hSP
          have x9 := (T5.out.cell 9).trans HCE.out.2.2.2.2.2.2.2.2.2
          by_cases hjS : j = S
          · have hjd : ((j : Int) == (S : Int)) = true := by simp [hjS]
            have HEND := Lib.hid (show (pre ++ [(⟨⟨so, 1, sa, L1, []⟩, none, 0⟩ : Obs)]).map Obs.ob = obsO ts n k ++ rowO ts n k T (j + 1) from by
              rw [HRS.out, HST5.out, show T.se[j]? = none from by rw [HTT.out.2.1]; exact List.getElem?_eq_none (by have := HS.out; omega), List.map_append, HPRE.out]
              simp)
            clear hjS
            go_wp2_with fail
            go_roundw
            case rel => exact ⟨j + 1, _, own5, by omega, by go_num, J5.out, B5.out, O5.out, T5.out, NT5.out, HEND.out⟩
            case measure => simp [intOf]; omega
          · have hjd : ((j : Int) == (S : Int)) = false := by simp; omega
            have hjS2 : j < S := by have := HSP.out; omega
            obtain ⟨q, hq⟩ : ∃ q, T.se[j]? = some q := ⟨_, List.getElem?_eq_getElem (by rw [HTT.out.2.1]; have := HS.out; omega)⟩
            obtain ⟨b3, o3, es, hb3, q0⟩ := (HTOK.out w5 own5 O5.out).se.str hq
            rw [HTT.out.2.2.2.2.2] at es
            subst es
            have jS : (j : Int) < (S : Int) := by omega
            have HQ := Lib.hid hq
            obtain ⟨c0, hc0⟩ := Option.isSome_iff_exists.1 (allC_some (ts := ts) (q := q) n ⟨k, T, hkn, HTX.out.1, List.mem_of_getElem? hq⟩)
            have HCK := Lib.hid (allC_ok (fun t ht => by have := (HWF.out t ht).1; simp only [stopsF, Bool.and_eq_true, decide_eq_true_eq] at this; exact this.1) n q c0 hc0)
            have hFq := HF.out q
            rw [hc0] at hFq
            cases hfq : F q with
            | none => rw [hfq] at hFq; cases hFq
            | some x =>
            rw [hfq] at hFq
            simp only [Option.map_some, Option.some.injEq] at hFq
            have hlk := O5.out.con.look1 q hfq
            have hbx := O5.out.con.blk q x hfq
            have hix := O5.out.con.ins q x hfq
            have HNX := Lib.hid (O5.out.con.nb q x hfq)
            obtain ⟨xb, xA, xc, xcon⟩ := x
            simp only at hFq hlk hbx hix HNX
            subst hFq
            replace HST5 := Lib.hid (show stopO ts n k T j ⟨so, sa, sd, sl⟩ = ⟨so, 1, sa, L1, []⟩ :: (if xcon.tr = k ∧ xcon.sp = j then [⟨so, 2, sd, q, contF ts xcon.fr.de xcon.ins⟩, ⟨xcon.to_.of_, 1, xcon.to_.ar, q, []⟩] else []) from by rw [HST5.out, HQ.out]; simp only [hc0])
            obtain ⟨⟨fo, fa, fd, fl⟩, ⟨zo, za, zd, zl⟩, xtr, xsp, ins⟩ := xcon
            simp only at HST5
            have HBX := Lib.hid hbx
            have y8 := hbx.cell 8
            have y9 := hbx.cell 9
            simp only [conCells, celV] at y8 y9
            clear hq hfq hc0 hbx
            by_cases htr : xtr = k
            case neg =>
              have htd : ((xtr : Int) != (k : Int)) = true := by simp; omega
              have HEND := Lib.hid (show (pre ++ [(⟨⟨so, 1, sa, L1, []⟩, none, 0⟩ : Obs)]).map Obs.ob = obsO ts n k ++ rowO ts n k T (j + 1) from by
                rw [HRS.out, HST5.out, if_neg (fun e => htr e.1), List.map_append, HPRE.out]
                simp)
              clear hix htr
              go_wp2_with fail
              go_roundw
              case rel => exact ⟨j + 1, _, own5, by omega, by go_num, J5.out, B5.out, O5.out, T5.out, NT5.out, HEND.out⟩
              case measure => simp [intOf]; omega
            have htd : ((xtr : Int) != (k : Int)) = false := by simp [htr]
            by_cases hsp : xsp = j
            case neg =>
              have hsd : ((xsp : Int) != (j : Int)) = true := by simp; omega
              have HEND := Lib.hid (show (pre ++ [(⟨⟨so, 1, sa, L1, []⟩, none, 0⟩ : Obs)]).map Obs.ob = obsO ts n k ++ rowO ts n k T (j + 1) from by
                rw [HRS.out, HST5.out, if_neg (fun e => hsp e.2), List.map_append, HPRE.out]
                simp)
              clear hix htr hsp
              go_wp2_with fail
              go_roundw
              case rel => exact ⟨j + 1, _, own5, by omega, by go_num, J5.out, B5.out, O5.out, T5.out, NT5.out, HEND.out⟩
              case measure => simp [intOf]; omega
            have hsd : ((xsp : Int) != (j : Int)) = false := by simp [hsp]
            rw [if_pos ⟨htr, hsp⟩] at HST5
            have HIX := Lib.hid hix
            clear htr hsp hix
            obtain ⟨C, hC⟩ : ∃ C, contF ts fd ins = C := ⟨_, rfl⟩
            have HCT := Lib.hid hC
            simp only [hC] at HST5
            have CC := Lib.hid (show ∀ X, Keeps w5 X → Calls Tryz.prog 93 #[.pointer (some ⟨xb, 0, none⟩), .slice (some ⟨b, o, none⟩) n c] X (fun e w' => ∃ A' n' c', e = .returned (.slice A' n' c') ∧ OwnR strR X w' (.slice A' n' c') C) from fun X hX => by
              have hO := O5.out.rel (o' := own5) (Rel.keeps hX)
              have hb := HBX.out.rel (o' := own5) (Rel.keeps hX) HNX.out
              rw [← HCT.out]
              exact contents93 ts ins fd xb xA (some ⟨b, o, none⟩) ins.length xc n c X (HIX.out.keep hX) (Lib.hid rfl) (hO.tr.more hO.le) hn (by have := HCK.out.few; simp only at this; omega) hnx (hb.cell 2) (hb.cell 10) (fun t ht => ⟨(hO.ok t ht).more hO.le, HWF.out t ht, HSI.out t ht⟩) (fun i hi => by
                obtain ⟨m2, e2, t2, ht2, -⟩ := HCK.out.ins i hi
                have h3 := (List.getElem?_eq_some_iff.1 ht2).1
                have h4 := hn.out
                omega))
            have SE2 := Lib.hid (show ∀ (X Y : World) (A' : Option Addr) (n' c' : Nat), Keeps w5 X → OwnR strR X Y (.slice A' n' c') C → Calls Tryz.prog 91 #[.int .i64 so, .int .i64 2, .int .i64 sd, .string q, .slice A' n' c', .pointer (some ⟨yb, 0, none⟩)] Y (fun e W' => e = .returned (.bool true) ∧ SeeR J (pre ++ [⟨⟨so, 1, sa, L1, []⟩, none, 0⟩] ++ [⟨⟨so, 2, sd, q, C⟩, A', c'⟩]) w5 own5 W') from fun X Y A' n' c' hX hO => by
              have hl := own_lenR hO
              subst hl
              refine see_step (T := fun xs => ∃ rest, obsO ts n n = xs.map Obs.ob ++ rest) ⟨⟨so, 2, sd, q, C⟩, A', c'⟩ HJA.out J5.out B5.out HY.out O5.out.hyb (hX.trans hO.2) (hO.recs strOk).1 (fun k2 hk2 => ?_) ?_
              · obtain ⟨hne, off, e⟩ := hk2
                simp only at hne e
                obtain ⟨g, cap, e3, h4, h5⟩ := hO.form (List.length_pos_iff.2 hne)
                injection e3 with e4 e5 e6
                rw [e] at e4
                injection e4 with e4
                injection e4 with e7 e8
                subst e7
                exact ⟨Nat.le_trans hX.size h4, h5⟩
              · obtain ⟨r, hr⟩ := HSPL.out
                exact ⟨[⟨zo, 1, za, q, []⟩] ++ r, by rw [hr, HST5.out, List.map_append, List.map_append, HPRE.out]; simp⟩)
            have cm := O5.out.hmb.cell 0
            have LT5 := Lib.hid (show sb < w5.heap.size ∧ mb < w5.heap.size ∧ tb < w5.heap.size ∧ xb < w5.heap.size from ⟨S5.out.lt, O5.out.hmb.lt, T5.out.lt, HBX.out.lt⟩)
            have NM5 := Lib.hid O5.out.nmb
            have SOF := Lib.hid (show ∀ X : World, (X.heap[sb]? = w5.heap[sb]? ∧ X.heap[mb]? = w5.heap[mb]?) → (fun w' : World => w'.cell? ⟨sb, 0, none⟩ = some (.int .i64 so) ∧ w'.cell? ⟨sb, 2, none⟩ = some (.int .i64 sd) ∧ w'.cell? ⟨mb, 0, none⟩ = some (.slice (some ⟨b, o, none⟩) n c)) X from fun X hX => by
              have a : Blk X sb 192 #[.int .i64 so, .int .i64 sa, .int .i64 sd, .int .i64 sl] := hX.1.trans S5.out
              have d : Blk X mb 47 #[.slice (some ⟨b, o, none⟩) n c] := hX.2.trans O5.out.hmb
              exact ⟨a.cell 0, a.cell 2, d.cell 0⟩)
            have LK5 := Lib.hid (show ∀ (xs : List Obs) w7, SeeR J xs w5 own5 w7 → (w7.heap[sb]? = w5.heap[sb]? ∧ w7.heap[mb]? = w5.heap[mb]?) from fun xs w7 h => by
              obtain ⟨own', h1, hr, h3⟩ := h
              exact ⟨(hr.2 _ LT5.out.1 NS5.out).1, (hr.2 _ LT5.out.2.1 NM5.out).1⟩)
            go_upto_region 14 with fail
            clear cm x9 y8 y9 hlk
            go_region_held3 (fun w' : World => w'.cell? ⟨sb, 0, none⟩ = some (.int .i64 so) ∧ w'.cell? ⟨sb, 2, none⟩ = some (.int .i64 sd) ∧ w'.cell? ⟨mb, 0, none⟩ = some (.slice (some ⟨b, o, none⟩) n c)) ((refine SOF.out _ ?_; (first | exact ⟨rfl, rfl⟩ | assumption))) ((first | (go_at_call 93; (with_reducible refine (CC.out w5.drew (Keeps.refl w5).drew).mono ?_); rintro e w6 ⟨A6, n6, c6, rfl, ho6⟩; have hk6 : Keeps w5 w6 := ((Keeps.refl w5).drew).trans ho6.2; have hs6 : w6.heap[sb]? = w5.heap[sb]? ∧ w6.heap[mb]? = w5.heap[mb]? := ⟨hk6.block _ LT5.out.1, hk6.block _ LT5.out.2.1⟩; clear hk6) | (go_at_call 91; (with_reducible refine (SE2.out w5.drew w6 A6 n6 c6 (Keeps.refl w5).drew ho6).mono ?_); rintro e w7 ⟨rfl, hs7'⟩; have HS7 := Lib.hid hs7'; have hs7 := LK5.out _ w7 hs7'; clear hs7')))
            rename_i hH
            clear hH hs7 hs6 ho6
            obtain ⟨own7, hJ7, hr7, hb7⟩ := HS7.out
            have J7 := Lib.hid hJ7
            have B7 := Lib.hid hb7
            have O7 := Lib.hid (O5.out.rel hr7)
            have T7 := Lib.hid (T5.out.rel hr7 NT5.out)
            have NT7 := Lib.hid ((hr7.2 _ LT5.out.2.2.1 NT5.out).2)
            have HBX7 := Lib.hid (HBX.out.rel hr7 HNX.out)
            have HNX7 := Lib.hid ((hr7.2 _ LT5.out.2.2.2 HNX.out).2)
            clear hJ7 hb7 hr7 HS7 SE2 SOF LK5 CC
            have SE3 := Lib.hid (show ∀ X, Keeps w7 X → Calls Tryz.prog 91 #[.int .i64 zo, .int .i64 1, .int .i64 za, .string q, .slice none 0 0, .pointer (some ⟨yb, 0, none⟩)] X (fun e W' => e = .returned (.bool true) ∧ SeeR J (pre ++ [⟨⟨so, 1, sa, L1, []⟩, none, 0⟩] ++ [⟨⟨so, 2, sd, q, C⟩, A6, c6⟩] ++ [⟨⟨zo, 1, za, q, []⟩, none, 0⟩]) w7 own7 W') from fun X hX =>
              see_step (T := fun xs => ∃ rest, obsO ts n n = xs.map Obs.ob ++ rest) ⟨⟨zo, 1, za, q, []⟩, none, 0⟩ HJA.out J7.out B7.out HY.out O7.out.hyb hX (RecIn.nil _) (fun k hk => absurd rfl hk.1) (by
                obtain ⟨r, hr⟩ := HSPL.out
                exact ⟨r, by rw [hr, HST5.out, List.map_append, List.map_append, List.map_append, HPRE.out]; simp⟩))
            have LT7 := Lib.hid (show tb < w7.heap.size ∧ xb < w7.heap.size from ⟨T7.out.lt, HBX7.out.lt⟩)
            have SOF := Lib.hid (show ∀ X : World, (X.heap[xb]? = w7.heap[xb]?) → (fun w' : World => w'.cell? ⟨xb, 4, none⟩ = some (.int .i64 zo) ∧ w'.cell? ⟨xb, 5, none⟩ = some (.int .i64 za)) X from fun X hX => by
              have a : Blk X xb 195 _ := hX.trans HBX7.out
              exact ⟨a.cell 4, a.cell 5⟩)
            have LK7 := Lib.hid (show ∀ (xs : List Obs) w8, SeeR J xs w7 own7 w8 → (w8.heap[xb]? = w7.heap[xb]?) from fun xs w8 h => by
              obtain ⟨own', h1, hr, h3⟩ := h
              exact (hr.2 _ LT7.out.2 HNX7.out).1)
            go_upto_region 15 with fail
            go_region_held3 (fun w' : World => w'.cell? ⟨xb, 4, none⟩ = some (.int .i64 zo) ∧ w'.cell? ⟨xb, 5, none⟩ = some (.int .i64 za)) ((refine SOF.out _ ?_; (first | exact rfl | assumption))) ((first | (go_at_call 91; (with_reducible refine (SE3.out w7.drew (Keeps.refl w7).drew).mono ?_); rintro e w8 ⟨rfl, hs8'⟩; have HS8 := Lib.hid hs8'; have hs8 := LK7.out _ w8 hs8'; clear hs8')))
            rename_i hH
            clear hH hs8
            obtain ⟨own8, hJ8, hr8, hb8⟩ := HS8.out
            have J8 := Lib.hid hJ8
            have B8 := Lib.hid hb8
            have O8 := Lib.hid (O7.out.rel hr8)
            have T8 := Lib.hid (T7.out.rel hr8 NT7.out)
            have NT8 := Lib.hid ((hr8.2 _ LT7.out.1 NT7.out).2)
            have HEND := Lib.hid (show (pre ++ [(⟨⟨so, 1, sa, L1, []⟩, none, 0⟩ : Obs)] ++ [(⟨⟨so, 2, sd, q, C⟩, A6, c6⟩ : Obs)] ++ [(⟨⟨zo, 1, za, q, []⟩, none, 0⟩ : Obs)]).map Obs.ob = obsO ts n k ++ rowO ts n k T (j + 1) from by
              rw [HRS.out, HST5.out, List.map_append, List.map_append, List.map_append, HPRE.out]
              simp)
            clear hJ8 hb8 hr8 HS8 SE3 SOF LK7
            go_wp2_with fail
            go_roundw
            case rel => exact ⟨j + 1, _, own8, by omega, by go_num, J8.out, B8.out, O8.out, T8.out, NT8.out, HEND.out⟩
            case measure => simp [intOf]; omega
        · have hjP' : ¬ ((j : Int) < (P : Int)) := by omega
          have ejP : j = P := by omega
          have HFE := Lib.hid (show pre.map Obs.ob = obsO ts n (k + 1) by rw [HPRE.out, obsO_succ HTX.out.1, HTT.out.1, HP.out, ejP])
          clear ejP
          go_wp2_with fail
          go_roundw
          case rel => exact ⟨k + 1, pre, own, by omega, by go_num, HJr.out, HOB.out, HO.out, HFE.out⟩
          case measure => simp [intOf]; omega
    · obtain rfl : k = n := by omega
      have hkn' : ¬ ((k : Int) < (k : Int)) := by omega
      clear hnl
      go_wp2_with fail
      go_end0
      exact ⟨⟨_, rfl⟩, pre, HPRE.out, own, HJr.out⟩
end Go.Proofs.YthkmpegpmpdhaaaGreatDoor
