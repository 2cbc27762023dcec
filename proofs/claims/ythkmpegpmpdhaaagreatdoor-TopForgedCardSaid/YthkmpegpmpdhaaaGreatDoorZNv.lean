/- Part of the proof of TopOwnItem. Conditions: as stated in each theorem. -/
import Derived.Test.YthkmpegpmpdhaaaGreatDoorZGt
import Derived.Test.YthkmpegpmpdhaaaGreatDoorProg
import Derived.WalkMore
import Derived.LoopN
import Derived.Lib.ConvBytes
import Derived.Maps.OwnIn
import Derived.Deep.LoopGhost
import Derived.RangeFuncNested
import Derived.RangeFuncCalls
import Derived.RangeFuncLeaves
import Derived.RangeFuncWrites
import Derived.Shelf.Abstract
import Derived.Shelf.RegionOpen
import Derived.OwnWalkIn
import Derived.TacticsInMore
import Derived.LoopNIn
import Derived.LoopIn
import Derived.RangeFuncBound
import Derived.Laws.IdiomCopy
import Derived.WalkKit
import Derived.WalkSpells
import Derived.WalkLawsBesides
import Derived.Laws.EntriesVeiled
import Derived.ProofKit
import Derived.OpenShut
import Derived.Lib.Hide
import Derived.BigQuiet
import Derived.Deep.QuietTactic
import Derived.Deep.CutRange
import Derived.StillTailTactics
import Derived.Lib.SliceRun
import Derived.RangeFuncRecord
import Derived.Carry
import Derived.ChangeKeysEq
import Derived.Below
import Derived.Laws.OwnMore
import Derived.Deep.AppendLies
import Derived.Deep.Draws
import Derived.Laws.Rows
import Derived.Maps.AppendAt
import Derived.RegionTactic
import Derived.OwnWalk
import Derived.Deep.RegionHeld3
namespace Go.Proofs.YthkmpegpmpdhaaaGreatDoor
open Go.Shelf Go.ChangeShapes Go.WideShapes Go.ChangeAt Go.RowKit
set_option linter.unusedSimpArgs false
set_option linter.unusedVariables false
section
attribute [local go_sem] Oper.semAt_some
set_option maxRecDepth 100000 in
set_option maxHeartbeats 8000000 in
theorem handed14 (w : World) (hk : Kw w) (ht : Tab w) : Calls Tryz.prog 14 #[] w fun e w' => e = .returned (.bool true) ∧ Keeps w w' := by
  have HK := Lib.hid hk
  have HT := Lib.hid ht
  have C1 := Lib.hid (network29 w)
  clear hk ht
  go_enter Tryz.func14, Tryz.ntmps14
  go_upto_region 4 with (go_at_call 29; (with_reducible refine C1.out.mono ?_); rintro e w1 ⟨bw, bc, bn, bo, bf, bl, bk, rfl, hN, hk1⟩; have N1 := Lib.hid hN; have K1 := Lib.hid hk1; clear hN hk1)
  obtain ⟨M, hM⟩ : ∃ M, w1.heap.size = M := ⟨_, rfl⟩
  have HA := Lib.hid (show ∀ V, V = (((((w1.alloc (.cells #[.slice (some ⟨bc, 0, none⟩) 1 1, .slice (some ⟨bn, 0, none⟩) 1 1, .slice (some ⟨bo, 0, none⟩) 2 2, .slice (some ⟨bf, 0, none⟩) 2 2, .slice (some ⟨bl, 0, none⟩) 2 2, .slice (some ⟨bk, 0, none⟩) 1 1] 87)).alloc (.cells #[.int .i64 (-1), .int .i64 0] 3)).alloc (.cells #[.int .i64 1, .int .i64 (-1)] 3)).alloc (.cells #[.slice (some ⟨M + 1, 0, none⟩) 2 2, .slice (some ⟨M + 2, 0, none⟩) 2 2] 41)).alloc (.cells #[.int .i64 0, .int .i64 0, .slice (some ⟨M + 3, 0, none⟩) 2 2, .slice none 0 0] 91)).alloc (.cells #[.int .i64 1, .int .i64 100, .string ⟨#[65]⟩, .int .i64 0, .int .i64 1, .int .i64 0, .int .i64 100, .string ⟨#[]⟩, .string ⟨#[]⟩, .int .i64 0, .int .i64 1, .int .i64 100, .string ⟨#[66]⟩, .int .i64 0, .int .i64 1, .int .i64 0, .int .i64 100, .string ⟨#[]⟩, .string ⟨#[]⟩, .int .i64 0] 93) → Keeps w1 V ∧ Blk V M 87 (netC bc bn bo bf bl bk) ∧ Pln V (M + 3) (M + 1) (M + 2) ∧ Blk V (M + 4) 91 (plnC (M + 3)) ∧ Blk V (M + 5) 93 (dedC 65 ++ dedC 66) from fun V e => by
    subst e
    refine ⟨((((((Keeps.refl w1).alloc _).alloc _).alloc _).alloc _).alloc _).alloc _, ?_, ⟨?_, ?_, ?_⟩, ?_, ?_⟩
    · exact (((((blk_at (w := w) w1 hM).alloc _).alloc _).alloc _).alloc _).alloc _
    · exact ((blk_at (w := w) _ (by simp [hM])).alloc _).alloc _
    · exact ((((blk_at (w := w) _ (by simp [hM])).alloc _).alloc _).alloc _).alloc _
    · exact (((blk_at (w := w) _ (by simp [hM])).alloc _).alloc _).alloc _
    · exact (blk_at (w := w) _ (by simp [hM])).alloc _
    · exact blk_at (w := w) _ (by simp [hM]))
  rw [hM]
  simp only [Nat.add_assoc, Nat.reduceAdd]
  generalize hV : (((((w1.alloc (.cells #[.slice (some ⟨bc, 0, none⟩) 1 1, .slice (some ⟨bn, 0, none⟩) 1 1, .slice (some ⟨bo, 0, none⟩) 2 2, .slice (some ⟨bf, 0, none⟩) 2 2, .slice (some ⟨bl, 0, none⟩) 2 2, .slice (some ⟨bk, 0, none⟩) 1 1] 87)).alloc (.cells #[.int .i64 (-1), .int .i64 0] 3)).alloc (.cells #[.int .i64 1, .int .i64 (-1)] 3)).alloc (.cells #[.slice (some ⟨M + 1, 0, none⟩) 2 2, .slice (some ⟨M + 2, 0, none⟩) 2 2] 41)).alloc (.cells #[.int .i64 0, .int .i64 0, .slice (some ⟨M + 3, 0, none⟩) 2 2, .slice none 0 0] 91)).alloc (.cells #[.int .i64 1, .int .i64 100, .string ⟨#[65]⟩, .int .i64 0, .int .i64 1, .int .i64 0, .int .i64 100, .string ⟨#[]⟩, .string ⟨#[]⟩, .int .i64 0, .int .i64 1, .int .i64 100, .string ⟨#[66]⟩, .int .i64 0, .int .i64 1, .int .i64 0, .int .i64 100, .string ⟨#[]⟩, .string ⟨#[]⟩, .int .i64 0] 93) = V at *
  obtain ⟨kV, b0, pV, b4, b5⟩ := HA.out V rfl
  have CR := Lib.hid (run30 bw bc bn bo bf bl bk (M + 3) (M + 1) (M + 2) (M + 5) V (N1.out.keep kV) (HK.out.keep (K1.out.trans kV)) pV b5 (HT.out.keep (K1.out.trans kV)))
  have KV := Lib.hid (K1.out.trans kV)
  have c0 := b0.cell 0; have c1 := b0.cell 1; have c2 := b0.cell 2; have c3 := b0.cell 3; have c4 := b0.cell 4; have c5 := b0.cell 5
  have d0 := b4.cell 0; have d1 := b4.cell 1; have d2 := b4.cell 2; have d3 := b4.cell 3
  clear HA hV kV b0 pV b4 b5 hM C1
  go_upto_region 5 with (go_at_call 30; (with_reducible refine CR.out.mono ?_); rintro e w3 ⟨TA, tn, tc, a1, a2, a3, a4, a5, a6, x1, x2, x3, x4, x5, x6, rfl, hO, hA, hB⟩; have OT := Lib.hid hO; have TA1 := Lib.hid hA; have TB1 := Lib.hid hB; clear hO hA hB c0 c1 c2 c3 c4 c5 d0 d1 d2 d3)
  have e2 : tn = 2 := own_lenR OT.out
  subst e2
  have k3 := (Keeps.refl w3).alloc (.cells #[.int .i64 0, .int .i64 0, .int .i64 0, .int .i64 1, .int .i64 1, .int .i64 0] 72)
  have CX := Lib.hid (ex_records (some ⟨w3.heap.size, 0, none⟩) TA 2 tc a1 a2 a3 a4 a5 a6 x1 x2 x3 x4 x5 x6 (w3.alloc (.cells #[.int .i64 0, .int .i64 0, .int .i64 0, .int .i64 1, .int .i64 1, .int .i64 0] 72)) (RecIn.lit scOk w3 _ _ rfl) ((OT.out.keep k3).recs tkOk).1 (TA1.out.keep k3) (TB1.out.keep k3))
  have K3 := Lib.hid ((KV.out.trans OT.out.2).trans k3)
  clear k3 OT TA1 TB1 CR KV
  go_upto_region 6 with (go_at_call 17; (with_reducible refine CX.out.mono ?_); rintro e w5 ⟨g, c', xc, sc, nu, xA, rfl, hk5, ⟨g0, g1, g2, g3, g4, g5⟩, hcon⟩; have K5 := Lib.hid (K3.out.trans hk5); have CON := Lib.hid hcon; clear hk5 hcon)
  clear CX K3
  have hgb : g < w5.heap.size := World.block_lt_of_cell? w5 _ g0
  go_upto_region 9 with fail
  have k9 := (Keeps.refl w5).alloc (.cells #[.int .i64 5, .int .i64 6] 3)
  have KR := Lib.hid (RecIn.lit intOk w5 [5, 6] #[.int .i64 5, .int .i64 6] rfl)
  have KL := Lib.hid (K5.out.trans k9)
  have h3 := cell_keep g3 k9; have h4 := cell_keep g4 k9; have h5 := cell_keep g5 k9
  have CN := Lib.hid (CON.out.keep k9)
  generalize w5.alloc (.cells #[.int .i64 5, .int .i64 6] 3) = w9 at *
  generalize w5.heap.size = kb at *
  clear K5 CON g0 g1 g2 g3 g4 g5 k9 hgb
  have SOF := Lib.hid (show ∀ X, Keeps w9 X → (fun w' : World => w'.cell? ⟨g, 15, none⟩ = some (.int .i64 480) ∧ w'.cell? ⟨g, 16, none⟩ = some (.string ⟨#[67, 48, 46, 52, 56, 48]⟩) ∧ w'.cell? ⟨g, 17, none⟩ = some (.slice xA 2 xc) ∧ Keeps w9 w') X from fun X hX => ⟨cell_keep h3 hX, cell_keep h4 hX, cell_keep h5 hX, hX⟩)
  have CW := Lib.hid (fun X (hX : Keeps w9 X) => ex_write (some ⟨kb, 0, none⟩) xA 2 xc X (KR.out.keep hX) (CN.out.keep hX) (HT.out.keep (KL.out.trans hX)))
  go_cut [8, 9] from 64 to 80 (fun a b wx => ExD w9 a b wx)
  case first =>
    have kz := Keeps.refl w9
    have ka : Keeps w9 ((w9.alloc (.cells #[.string ⟨#[]⟩, .int .i64 0, .int .i64 0, .int .i64 0, .int .i64 0, .int .i64 0, .int .i64 0, .int .i64 0] 54)).drew) := ((Keeps.refl w9).alloc _).drew
    have ba : Blk ((w9.alloc (.cells #[.string ⟨#[]⟩, .int .i64 0, .int .i64 0, .int .i64 0, .int .i64 0, .int .i64 0, .int .i64 0, .int .i64 0] 54)).drew) w9.heap.size 54 #[.string ⟨#[]⟩, .int .i64 0, .int .i64 0, .int .i64 0, .int .i64 0, .int .i64 0, .int .i64 0, .int .i64 0] := (Blk.new w9 54 #[.string ⟨#[]⟩, .int .i64 0, .int .i64 0, .int .i64 0, .int .i64 0, .int .i64 0, .int .i64 0, .int .i64 0]).drew
    have CWA := Lib.hid (CW.out _ ka)
    have CWB := Lib.hid (CW.out _ (Keeps.refl w9).drew)
    go_region_held3 (fun w' : World => w'.cell? ⟨g, 15, none⟩ = some (.int .i64 480) ∧ w'.cell? ⟨g, 16, none⟩ = some (.string ⟨#[67, 48, 46, 52, 56, 48]⟩) ∧ w'.cell? ⟨g, 17, none⟩ = some (.slice xA 2 xc) ∧ Keeps w9 w') ((with_reducible refine SOF.out _ ?_; (repeat (first | with_reducible exact kz | with_reducible exact hk5 | (with_reducible refine Keeps.setCell ?_ (Nat.le_refl _) _) | (with_reducible apply Keeps.drew) | (with_reducible apply Keeps.alloc))); done)) ((first | (go_at_call 18; (with_reducible refine CWA.out.mono ?_); rintro e w10 ⟨sl, fr, tw, ti, ct, rt, gv, tk, rfl, hd, hk10'⟩; have HD := Lib.hid hd; have hk5 : Keeps w9 w10 := ka.trans hk10'; have bb := ba.below hk10' ba.lt; have q0 := bb.cell 0; have q1 := bb.cell 1; have q2 := bb.cell 2; have q3 := bb.cell 3; have q4 := bb.cell 4; have q5 := bb.cell 5; have q6 := bb.cell 6; have q7 := bb.cell 7; simp at q0 q1 q2 q3 q4 q5 q6 q7; have f0 := bb.frozen 0; have f1 := bb.frozen 1; have f2 := bb.frozen 2; have f3 := bb.frozen 3; have f4 := bb.frozen 4; have f5 := bb.frozen 5; have f6 := bb.frozen 6; have f7 := bb.frozen 7; have BB := Lib.hid bb; clear hd bb hk10') | (go_at_call 18; (with_reducible refine CWB.out.mono ?_); rintro e w10 ⟨sl, fr, tw, ti, ct, rt, gv, tk, rfl, hd, hk10'⟩; have HD := Lib.hid hd; have hk5 : Keeps w9 w10 := ((Keeps.refl w9).drew).trans hk10'; clear hd hk10')))
    all_goals (rename_i hH; clear hH)
    · have WD := Lib.hid (show ExD w9 (.pointer (some ⟨w10.heap.size, 0, none⟩)) (.int .i64 0) (w10.alloc (.cells #[.string sl, .int .i64 fr, .int .i64 tw, .int .i64 ti, .int .i64 ct, .int .i64 rt, .int .i64 gv, .int .i64 tk] 54)) from ⟨_, _, _, _, _, _, _, _, _, rfl, rfl, hk5.alloc _, Blk.new _ _ _, HD.out⟩)
      clear hk5
      go_wp2_with fail
      go_meet
      exact WD.out
    · have WD := Lib.hid (show ExD w9 (.pointer (some ⟨w9.heap.size, 0, none⟩)) (.int .i64 0) ((((((((w10.setCell ⟨w9.heap.size, 0, none⟩ (.string sl)).setCell ⟨w9.heap.size, 1, none⟩ (.int .i64 fr)).setCell ⟨w9.heap.size, 2, none⟩ (.int .i64 tw)).setCell ⟨w9.heap.size, 3, none⟩ (.int .i64 ti)).setCell ⟨w9.heap.size, 4, none⟩ (.int .i64 ct)).setCell ⟨w9.heap.size, 5, none⟩ (.int .i64 rt)).setCell ⟨w9.heap.size, 6, none⟩ (.int .i64 gv)).setCell ⟨w9.heap.size, 7, none⟩ (.int .i64 tk)) from ⟨_, _, _, _, _, _, _, _, _, rfl, rfl, ((((((((hk5.setCell (Nat.le_refl _) _).setCell (Nat.le_refl _) _).setCell (Nat.le_refl _) _).setCell (Nat.le_refl _) _).setCell (Nat.le_refl _) _).setCell (Nat.le_refl _) _).setCell (Nat.le_refl _) _).setCell (Nat.le_refl _) _), ((((((((BB.out.set_ 0 (.string sl)).set_ 1 (.int .i64 fr)).set_ 2 (.int .i64 tw)).set_ 3 (.int .i64 ti)).set_ 4 (.int .i64 ct)).set_ 5 (.int .i64 rt)).set_ 6 (.int .i64 gv)).set_ 7 (.int .i64 tk)), HD.out⟩)
      clear hk5 q0 q1 q2 q3 q4 q5 q6 q7 f0 f1 f2 f3 f4 f5 f6 f7
      go_wp2_with fail
      go_meet
      exact WD.out
  case rest =>
    obtain ⟨db, sl, fr, tw, ti, ct, rt, gv, tk, rfl, rfl, hk6, hb6, hd⟩ := hcut
    have K10 := Lib.hid (KL.out.trans hk6)
    have KR10 := Lib.hid (KR.out.keep hk6)
    have CN10 := Lib.hid (CN.out.keep hk6)
    have B10 := Lib.hid hb6
    have i5 := cell_keep h5 hk6
    have CP := Lib.hid (prove31 ⟨#[65]⟩ ⟨#[66]⟩ xA xc wc CN10.out (by decide) ex_lab (HT.out.keep K10.out))
    clear h3 h4 h5 hk6 hb6 CW SOF KR CN KL
    go_upto_region 11 with (go_at_call 31; (with_reducible refine CP.out.mono ?_); rintro e w11 ⟨A', n', c', rfl, ho⟩; have e1 : n' = 1 := own_lenR ho; subst e1; have O11 := Lib.hid ho; clear ho)
    have k12 := O11.out.2.alloc (.cells #[.int .i64 1, .slice A' 1 c'] 49)
    have PB := Blk.new w11 49 #[.int .i64 1, .slice A' 1 c']
    have p0 : (w11.alloc (.cells #[.int .i64 1, .slice A' 1 c'] 49)).cell? ⟨w11.heap.size, 0, none⟩ = some (.int .i64 1) := PB.cell 0
    have p1 : (w11.alloc (.cells #[.int .i64 1, .slice A' 1 c'] 49)).cell? ⟨w11.heap.size, 1, none⟩ = some (.slice A' 1 c') := PB.cell 1
    have PA := Lib.hid ((O11.out.keep ((Keeps.refl w11).alloc (.cells #[.int .i64 1, .slice A' 1 c'] 49))).recs intOk).1
    have K12 := Lib.hid (K10.out.trans k12)
    have KR12 := Lib.hid (KR10.out.keep k12)
    have CN12 := Lib.hid (CN10.out.keep k12)
    have B12 := B10.out.below k12 B10.out.lt
    have j5 := cell_keep i5 k12
    clear PB i5 CP O11 k12 K10 KR10 CN10 B10
    generalize w11.alloc (.cells #[.int .i64 1, .slice A' 1 c'] 49) = w12 at *
    generalize w11.heap.size = pb at *
    have y0 : w12.cell? ⟨db, 0, none⟩ = some (.string sl) := B12.cell 0
    have y1 : w12.cell? ⟨db, 1, none⟩ = some (.int .i64 fr) := B12.cell 1
    have y2 : w12.cell? ⟨db, 2, none⟩ = some (.int .i64 tw) := B12.cell 2
    have y3 : w12.cell? ⟨db, 3, none⟩ = some (.int .i64 ti) := B12.cell 3
    have y4 : w12.cell? ⟨db, 4, none⟩ = some (.int .i64 ct) := B12.cell 4
    have y5 : w12.cell? ⟨db, 5, none⟩ = some (.int .i64 rt) := B12.cell 5
    have y6 : w12.cell? ⟨db, 6, none⟩ = some (.int .i64 gv) := B12.cell 6
    have y7 : w12.cell? ⟨db, 7, none⟩ = some (.int .i64 tk) := B12.cell 7
    have SOF := Lib.hid (show ∀ X, Keeps w12 X → X.cell? ⟨db, 0, none⟩ = some (.string sl) ∧ X.cell? ⟨db, 1, none⟩ = some (.int .i64 fr) ∧ X.cell? ⟨db, 2, none⟩ = some (.int .i64 tw) ∧ X.cell? ⟨db, 3, none⟩ = some (.int .i64 ti) ∧ X.cell? ⟨db, 4, none⟩ = some (.int .i64 ct) ∧ X.cell? ⟨db, 5, none⟩ = some (.int .i64 rt) ∧ X.cell? ⟨db, 6, none⟩ = some (.int .i64 gv) ∧ X.cell? ⟨db, 7, none⟩ = some (.int .i64 tk) ∧ X.cell? ⟨pb, 0, none⟩ = some (.int .i64 1) ∧ X.cell? ⟨pb, 1, none⟩ = some (.slice A' 1 c') ∧ X.cell? ⟨g, 17, none⟩ = some (.slice xA 2 xc) from fun X hX => ⟨cell_keep y0 hX, cell_keep y1 hX, cell_keep y2 hX, cell_keep y3 hX, cell_keep y4 hX, cell_keep y5 hX, cell_keep y6 hX, cell_keep y7 hX, cell_keep p0 hX, cell_keep p1 hX, cell_keep j5 hX⟩)
    have CV1 := Lib.hid (ex_verify sl fr tw ti ct rt gv tk hd ⟨#[66]⟩ (by decide) (some ⟨kb, 0, none⟩) A' 2 c' 0 ex_good w12 KR12.out PA.out (HT.out.keep K12.out))
    have CV2 := Lib.hid (fun X (hX : Keeps w12 X) => ex_verify sl fr tw ti ct rt gv tk hd ⟨#[88]⟩ (by decide) (some ⟨kb, 0, none⟩) A' 2 c' 190 ex_wrong X (KR12.out.keep hX) (PA.out.keep hX) (HT.out.keep (K12.out.trans hX)))
    have CPA := Lib.hid (fun X (hX : Keeps w12 X) => path32 ⟨#[65]⟩ ⟨#[66]⟩ xA xc X (CN12.out.keep hX) (by decide))
    clear B12 PA KR12 CN12 hd
    go_wp2_with (first | (go_at_call 19; (with_reducible refine CV1.out.mono ?_); rintro e w13 ⟨rfl, hk13⟩; obtain ⟨s0, s1, s2, s3, s4, s5, s6, s7, s8, s9, s10⟩ := SOF.out _ hk13; have G13 := Lib.hid hk13; clear hk13) | (go_at_call 19; (with_reducible refine (CV2.out _ G13.out).mono ?_); rintro e w14 ⟨rfl, hk14⟩; have G14 := Lib.hid (G13.out.trans hk14); obtain ⟨r0, r1, r2, r3, r4, r5, r6, r7, r8, r9, r10⟩ := SOF.out _ G14.out; clear hk14) | (go_at_call 32; (with_reducible refine (CPA.out _ G14.out).mono ?_); rintro e w15 ⟨A2, n2, c2, rfl, ho⟩; have e2 : n2 = 1 := own_lenR ho; subst e2; have G15 := Lib.hid (G14.out.trans ho.2); clear ho))
    go_ret
    exact ⟨rfl, K12.out.trans G15.out⟩
end
end Go.Proofs.YthkmpegpmpdhaaaGreatDoor
