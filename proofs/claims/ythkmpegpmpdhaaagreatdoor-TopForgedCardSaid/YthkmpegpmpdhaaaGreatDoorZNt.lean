/- Part of the proof of TopOwnItem. Conditions: as stated in each theorem. -/
import Derived.Test.YthkmpegpmpdhaaaGreatDoorZNs
import Derived.Test.YthkmpegpmpdhaaaGreatDoorZNh
import Derived.Test.YthkmpegpmpdhaaaGreatDoorZNm
import Derived.Test.YthkmpegpmpdhaaaGreatDoorProg
import Derived.WalkMore
import Derived.LoopN
import Derived.Lib.ConvBytes
import Derived.Maps.OwnIn
import Derived.Deep.LoopGhost
import Derived.RangeFuncNested
import Derived.RangeFuncCalls
import Derived.RangeFuncLeaves
import Derived.RangeFuncWrites
import Derived.Shelf.Abstract
import Derived.Shelf.RegionOpen
import Derived.OwnWalkIn
import Derived.TacticsInMore
import Derived.LoopNIn
import Derived.LoopIn
import Derived.RangeFuncBound
import Derived.Laws.IdiomCopy
import Derived.WalkKit
import Derived.WalkSpells
import Derived.WalkLawsBesides
import Derived.Laws.EntriesVeiled
import Derived.ProofKit
import Derived.OpenShut
import Derived.Lib.Hide
import Derived.BigQuiet
import Derived.Deep.QuietTactic
import Derived.Deep.CutRange
import Derived.StillTailTactics
import Derived.Lib.SliceRun
import Derived.RangeFuncRecord
import Derived.Carry
import Derived.ChangeKeysEq
import Derived.Below
import Derived.Laws.OwnMore
import Derived.Deep.AppendLies
import Derived.Deep.Draws
import Derived.Laws.Rows
import Derived.Maps.AppendAt
import Derived.RegionTactic
import Derived.OwnWalk
import Derived.Deep.RegionHeld3
namespace Go.Proofs.YthkmpegpmpdhaaaGreatDoor
open Go.Shelf Go.ChangeShapes Go.WideShapes Go.ChangeAt Go.RowKit
set_option linter.unusedSimpArgs false
set_option linter.unusedVariables false
/-- A track of the example. -/
abbrev trkE (c : UInt8) (g2 cp2 ib lb g cp : Nat) : Trk := ⟨⟨#[c]⟩, 0, 1, 0, 100, [⟨0, 100, 480, 0⟩, ⟨1, 600, -1, -1⟩], some ⟨g2, 0, none⟩, cp2, false, [100], some ⟨ib, 0, none⟩, 1, [⟨#[c]⟩], some ⟨lb, 0, none⟩, 1, [⟨#[67, 48, 46, 52, 56, 48]⟩], some ⟨g, 0, none⟩, cp⟩
abbrev trkC (c : UInt8) (g2 cp2 ib lb g cp : Nat) : Array Value := #[.string ⟨#[c]⟩, .int .i64 0, .int .i64 1, .int .i64 0, .int .i64 100, .slice (some ⟨g2, 0, none⟩) 2 cp2, .bool false, .slice (some ⟨ib, 0, none⟩) 1 1, .slice (some ⟨lb, 0, none⟩) 1 1, .slice (some ⟨g, 0, none⟩) 1 cp]
theorem ItS.track {c : UInt8} {i ib lb g2 cp2 g cp : Nat} {ho li le : Int} {W : World} (h : ItS c i ib lb g2 2 cp2 (.slice (some ⟨g, 0, none⟩) 1 cp) ho li le W) :
    W.cell? ⟨i, 0, none⟩ = some (.string ⟨#[c]⟩) ∧ W.cell? ⟨i, 1, none⟩ = some (.int .i64 0) ∧ W.cell? ⟨i, 2, none⟩ = some (.int .i64 1) ∧ W.cell? ⟨i, 3, none⟩ = some (.int .i64 0) ∧ W.cell? ⟨i, 4, none⟩ = some (.int .i64 100) ∧ W.cell? ⟨i, 5, none⟩ = some (.slice (some ⟨g2, 0, none⟩) 2 cp2) ∧ W.cell? ⟨i, 6, none⟩ = some (.bool false) ∧ W.cell? ⟨i, 7, none⟩ = some (.slice (some ⟨ib, 0, none⟩) 1 1) ∧ W.cell? ⟨i, 8, none⟩ = some (.slice (some ⟨lb, 0, none⟩) 1 1) ∧ W.cell? ⟨i, 9, none⟩ = some (.slice (some ⟨g, 0, none⟩) 1 cp) :=
  ⟨h.it.cell 0, h.it.cell 1, h.it.cell 2, h.it.cell 3, h.it.cell 4, h.it.cell 5, h.it.cell 6, h.it.cell 7, h.it.cell 8, h.it.cell 9⟩
theorem trk_ok {c : UInt8} {i ib lb g2 cp2 g cp : Nat} {ho li le : Int} {W : World} (h : ItS c i ib lb g2 2 cp2 (.slice (some ⟨g, 0, none⟩) 1 cp) ho li le W) (o1 : W.ownsRow 0 192 4 (.slice (some ⟨g2, 0, none⟩) 2 cp2) 2 stops2) (o2 : W.ownsRow 0 9 1 (.slice (some ⟨g, 0, none⟩) 1 cp) 1 [.string ⟨#[67, 48, 46, 52, 56, 48]⟩]) : TrkOk W W.heap.size (trkE c g2 cp2 ib lb g cp) :=
  ⟨RecIn.of_own stOk o1 rfl, RecIn.of_blk (fun _ => rfl) h.ib rfl h.ib.lt, RecIn.of_blk (fun _ => rfl) h.lb rfl h.lb.lt, RecIn.of_own strOk o2 rfl⟩
/-- What Run answers at the example. -/
def RunP (w : World) (e : Ending) (w' : World) : Prop := ∃ (A : Option Addr) (n c a1 a2 a3 a4 a5 a6 b1 b2 b3 b4 b5 b6 : Nat), e = .returned (.tuple #[.slice A n c, .int .i64 0]) ∧ OwnR tkR w w' (.slice A n c) [trkE 65 a1 a2 a3 a4 a5 a6, trkE 66 b1 b2 b3 b4 b5 b6] ∧ TrkOk w' w'.heap.size (trkE 65 a1 a2 a3 a4 a5 a6) ∧ TrkOk w' w'.heap.size (trkE 66 b1 b2 b3 b4 b5 b6)
theorem Blk.po {A : Ad} {w0 w w' : World} {its : Value} {is : List Nat} {L : List (ByteArray × Value)} {g : Nat} {t : TypeId} {cs : Array Value} (h : Blk w g t cs) (f : PoF A its w w') (H : HiS w0 A its L w) (O : OwnR ptR w0 w its is) (h1 : t ≠ 170) (h2 : t ≠ 174) : Blk w' g t cs :=
  (f.2 g h.lt (fun e => h.ne_ H.hb h1 e) (fun e => h.ne_map H.mm e.symm) (own_other O h h2)).trans h
theorem proc_0 (w0 : World) (A : Ad) (l : List (ByteArray × Value)) (W : World) (H : HiS w0 A (.slice none 0 0) l W) : Calls Tryz.prog 78 #[.pointer (some ⟨A.hb, 0, none⟩), .int .i64 100] W fun e w' => e = .returned (.bool true) ∧ Keeps W w' :=
  proceed_none A.hb 100 (fun _ => #[.pointer none]) (fun _ => rfl) W (fun t X b1 b2 hk => dep168_0 A t 100 _ _ (fun Y hY => ⟨(b1.kp hY).cell 0, (H.keep (hk.trans hY)).hb.cell7⟩))
theorem proc_1 (w0 : World) (A : Ad) (p cp i : Nat) (l : List (ByteArray × Value)) (c : UInt8) (ib lb sb : Nat) (se : Value) (W : World) (H : HiS w0 A (.slice (some ⟨p, 0, none⟩) 1 cp) l W) (O : OwnR ptR w0 W (.slice (some ⟨p, 0, none⟩) 1 cp) [i]) (I : ItS c i ib lb sb 1 1 se 0 0 480 W) : Calls Tryz.prog 78 #[.pointer (some ⟨A.hb, 0, none⟩), .int .i64 100] W fun e w' => e = .returned (.bool true) ∧ Keeps W w' :=
  proceed_none A.hb 100 (fun _ => #[.pointer none]) (fun _ => rfl) W (fun t X b1 b2 hk => dep168_1 A t p cp i _ _ (fun Y hY => by
    have hy := hk.trans hY
    have Ik := I.keep hy
    refine ⟨(b1.kp hY).cell 0, (b2.kp hY).cell 0, (H.keep hy).hb.cell7, fun k x hx => ?_, fun k x hx hj => absurd hj (Nat.not_lt_zero k), fun k x hx _ => ?_⟩
    · match k, hx with
      | 0, hx => cases hx; exact own_cell (O.keep hy).1 (j := 0) rfl
    · match k, hx with
      | 0, hx => cases hx; exact ⟨Ik.it.cell 11, Ik.it.cell 12⟩))
/-- The cells of the example's plan. -/
abbrev plnC (nx : Nat) : Array Value := #[.int .i64 0, .int .i64 0, .slice (some ⟨nx, 0, none⟩) 2 2, .slice none 0 0]
section
attribute [local go_sem] Oper.semAt_some
set_option maxRecDepth 100000 in
set_option maxHeartbeats 8000000 in
theorem run30 (bw bc bn bo bf bl bk nx r0 r1 db : Nat) (w : World) (h : Net w bw bc bn bo bf bl bk) (hk : Kw w) (hp : Pln w nx r0 r1) (hd : Blk w db 93 (dedC 65 ++ dedC 66)) (ht : Tab w) :
    Calls Tryz.prog 30 #[.agg (netC bc bn bo bf bl bk), .agg (plnC nx), .slice (some ⟨db, 0, none⟩) 2 2] w (RunP w) := by
  obtain ⟨N, hN⟩ : ∃ N, w.heap.size = N := ⟨_, rfl⟩
  have HA := Lib.hid (show ∀ V, V = (w.alloc (.cells (netC bc bn bo bf bl bk) 87)).alloc (.cells (plnC nx) 91) → Keeps w V ∧ Blk V N 87 (netC bc bn bo bf bl bk) ∧ Blk V (N + 1) 91 (plnC nx) from fun V e => by
    subst e
    exact ⟨((Keeps.refl w).alloc _).alloc _, (blk_at (w := w) w hN).alloc _, blk_at (w := w) _ (by simp [hN])⟩)
  have HC := Lib.hid (show ∀ X, Blk X N 87 (netC bc bn bo bf bl bk) → Blk X (N + 1) 91 (plnC nx) → X.cell? ⟨N, 0, none⟩ = some (.slice (some ⟨bc, 0, none⟩) 1 1) ∧ X.cell? ⟨N, 1, none⟩ = some (.slice (some ⟨bn, 0, none⟩) 1 1) ∧ X.cell? ⟨N, 2, none⟩ = some (.slice (some ⟨bo, 0, none⟩) 2 2) ∧ X.cell? ⟨N, 3, none⟩ = some (.slice (some ⟨bf, 0, none⟩) 2 2) ∧ X.cell? ⟨N, 4, none⟩ = some (.slice (some ⟨bl, 0, none⟩) 2 2) ∧ X.cell? ⟨N, 5, none⟩ = some (.slice (some ⟨bk, 0, none⟩) 1 1) ∧ X.cell? ⟨N + 1, 2, none⟩ = some (.slice (some ⟨nx, 0, none⟩) 2 2) from fun X h1 h2 => ⟨h1.cell 0, h1.cell 1, h1.cell 2, h1.cell 3, h1.cell 4, h1.cell 5, h2.cell 2⟩)
  have C1 := Lib.hid (fun X (hX : Keeps w X) => sound74 bw bc bn bo bf bl bk X (h.keep hX) (hk.keep hX))
  have C2 := Lib.hid (fun X (hX : Keeps w X) => fits75 bw bc bn bo bf bl bk nx r0 r1 X (h.keep hX) (hp.keep hX))
  have C3 := Lib.hid (fun X (hX : Keeps w X) => wellFormed76 bw bc bn bo bf bl bk db X (h.keep hX) (hd.kp hX))
  have HH := Lib.hid h
  have HK := Lib.hid hk
  have HP := Lib.hid hp
  have HD := Lib.hid hd
  have HT := Lib.hid ht
  have HN := Lib.hid hN
  have hmk := @run_makeMap Tryz.prog
  clear h hk hp hd ht
  go_enter Tryz.func30, Tryz.ntmps30
  go_upto_region 1 with fail
  clear hN
  generalize hV : (w.alloc (.cells (netC bc bn bo bf bl bk) 87)).alloc (.cells (plnC nx) 91) = V at *
  obtain ⟨kV, bV, pV⟩ := HA.out V rfl
  obtain ⟨c0, c1, c2, c3, c4, c5, c6⟩ := HC.out V bV pV
  have KV := Lib.hid kV; have BV := Lib.hid bV; have PV := Lib.hid pV
  clear HA hV kV bV pV
  go_upto_region 3 with (first | (go_at_call 74; (with_reducible refine (C1.out _ KV.out).mono ?_); rintro e w1 ⟨rfl, hk1⟩; have K1 := Lib.hid hk1; obtain ⟨a0, a1, a2, a3, a4, a5, a6⟩ := HC.out w1 (BV.out.kp hk1) (PV.out.kp hk1); clear hk1 c0 c1 c2 c3 c4 c5 c6) | (go_at_call 75; (with_reducible refine (C2.out _ (KV.out.trans K1.out)).mono ?_); rintro e w2 ⟨rfl, hk2⟩; have K2 := Lib.hid (K1.out.trans hk2); obtain ⟨d0, d1, d2, d3, d4, d5, d6⟩ := HC.out w2 (BV.out.kp K2.out) (PV.out.kp K2.out); clear hk2 a0 a1 a2 a3 a4 a5 a6) | (go_at_call 76; (with_reducible refine (C3.out _ (KV.out.trans K2.out)).mono ?_); rintro e w3 ⟨rfl, hk3⟩; have K3 := Lib.hid (K2.out.trans hk3); obtain ⟨e0, e1, e2, e3, e4, e5, e6⟩ := HC.out w3 (BV.out.kp K3.out) (PV.out.kp K3.out); clear hk3 d0 d1 d2 d3 d4 d5 d6))
  obtain ⟨M, hM⟩ : ∃ M, w3.heap.size = M := ⟨_, rfl⟩
  go_upto_region 4 with fail
  simp only [Nat.add_assoc, Nat.reduceAdd]
  obtain ⟨A, hA⟩ : ∃ A : Ad, A = ⟨bw, bc, bn, bo, bf, bl, bk, nx, r0, r1, M + 2, M, M + 1⟩ := ⟨_, rfl⟩
  have kw3 := KV.out.trans K3.out
  have hNM : w.heap.size ≤ M := by have := kw3.size; omega
  have HX := Lib.hid (show HiS w A (.slice none 0 0) [] (((w3.alloc (.map #[] 0)).alloc (.map #[] 0)).alloc (.cells #[.slice (some ⟨bc, 0, none⟩) 1 1, .slice (some ⟨bn, 0, none⟩) 1 1, .slice (some ⟨bo, 0, none⟩) 2 2, .slice (some ⟨bf, 0, none⟩) 2 2, .slice (some ⟨bl, 0, none⟩) 2 2, .slice (some ⟨bk, 0, none⟩) 1 1, .slice (some ⟨nx, 0, none⟩) 2 2, .slice none 0 0, .map (some M), .map (some (M + 1))] 170)) from by
    subst hA
    have m0 := MapIs.made (kv := strK) w3
    rw [hM] at m0
    have m1 := MapIs.made (kv := ivK) (w3.alloc (.map #[] 0))
    rw [World.size_alloc, hM] at m1
    exact ⟨((kw3.alloc _).alloc _).alloc _, HH.out, HK.out, HP.out, blk_at (w := w) _ (by simp [hM]), m0.kp (((Keeps.refl _).alloc _).alloc _), m1.kp ((Keeps.refl _).alloc _), by simp; omega⟩)
  have hhb : (.pointer (some ⟨M + 2, 0, none⟩) : Value) = .pointer (some ⟨A.hb, 0, none⟩) := by subst hA; rfl
  have hmm : w.heap.size ≤ A.mm ∧ A.cm ≠ A.mm := by subst hA; exact ⟨hNM, by simp⟩
  rw [hhb]
  have HM := Lib.hid hmm
  clear e0 e1 e2 e3 e4 e5 e6 C1 C2 C3 HC BV PV K1 K2 hmk hhb hmm hA
  generalize ((w3.alloc (.map #[] 0)).alloc (.map #[] 0)).alloc (.cells #[.slice (some ⟨bc, 0, none⟩) 1 1, .slice (some ⟨bn, 0, none⟩) 1 1, .slice (some ⟨bo, 0, none⟩) 2 2, .slice (some ⟨bf, 0, none⟩) 2 2, .slice (some ⟨bl, 0, none⟩) 2 2, .slice (some ⟨bk, 0, none⟩) 1 1, .slice (some ⟨nx, 0, none⟩) 2 2, .slice none 0 0, .map (some M), .map (some (M + 1))] 170) = X4 at *
  clear hM kw3
  go_wp2_with (go_at_call 77; (with_reducible refine (actions77 A.hb X4).mono ?_); rintro e X5 ⟨r, rfl, hr, hmr, hk5⟩; have H5 := Lib.hid (HX.out.keep hk5); have R5 := Lib.hid hmr; have RM := Lib.hid (show A.mm < r from Nat.lt_of_lt_of_le HX.out.mm.lt hr); clear hr hmr hk5)
  clear HX X4
  refine wp_loop_rounds 3 ?_
  rw [rounds_succ]
  have hd5 := HD.out.kp H5.out.k
  obtain ⟨s0, s1, s2, s3, s4, s5, s6, s7, s8, s9, s10, s11, s12, s13, s14, s15, s16, s17, s18, s19⟩ := ded_cells hd5
  go_upto_region 8 with fail
  clear s0 s1 s2 s3 s4 s5 s6 s7 s8 s9 s10 s11 s12 s13 s14 s15 s16 s17 s18 s19 hd5
  have kA := (Keeps.refl X5).alloc (.cells (dedC 65) 93)
  have H6 := Lib.hid (H5.out.keep kA)
  have R6 := Lib.hid (R5.out.kp kA)
  have D6 := Lib.hid (Blk.new X5 93 (dedC 65))
  obtain ⟨u0, u1, u2, u3, u4, u5, u6, u7, u8, u9⟩ := dedb_cells D6.out
  clear kA H5 R5
  generalize X5.alloc (.cells (dedC 65) 93) = X6 at *
  generalize X5.heap.size = q1 at *
  clear X5
  have hm1 := HM.out.1
  have hm2 := HM.out.2
  go_wp2_with (first | (go_at_call 78; (with_reducible refine (proc_0 w A [] X6 H6.out).mono ?_); rintro e w7 ⟨rfl, hk7⟩; have H7 := Lib.hid (H6.out.keep hk7); have R7 := Lib.hid (R6.out.kp hk7); have HL7 := look1 Tryz.underlying171 R7.out false (z := Value.nilFunc) (by kernel_rfl); obtain ⟨v0, v1, v2, v3, v4, v5, v6, v7, v8, v9⟩ := dedb_cells (D6.out.kp hk7); clear hk7 u0 u1 u2 u3 u4 u5 u6 u7 u8 u9 D6) | (go_at_call 127; (with_reducible refine (post127 w A (.slice none 0 0) [] [] 65 w7 H7.out ((OwnR.nil w).keep H7.out.k) (by decide) rfl hm2 hm1).mono ?_); rintro e w8 ⟨⟨ve, rfl⟩, N1, A1, n1, c1, hN1, h8, o8, i8, s8, f8⟩; have H8 := Lib.hid h8; have O8 := Lib.hid o8; have I8 := Lib.hid i8; have S8 := Lib.hid s8; have F8 := Lib.hid f8; have hN1' := Lib.hid hN1; clear h8 o8 i8 s8 f8 hN1 v0 v1 v2 v3 v4 v5 v6 v7 v8 v9 HL7))
  have R8 := Lib.hid (R7.out.same (F8.out.2 r R7.out.lt (fun e => H7.out.hb.ne_map R7.out e) (fun e => by have := RM.out; omega) (by simp [Value.ownBlock])))
  obtain ⟨p1, cp1, e1, -, -⟩ := O8.out.form (by simp)
  simp only [List.nil_append, List.length_cons, List.length_nil, Nat.zero_add] at e1 H8 O8
  rw [e1] at H8 O8
  have HW1 := Lib.hid (show w.heap.size ≤ N1 by have := H7.out.k.size; have := hN1'.out; omega)
  clear e1 R7 H7 H6 R6 F8 hN1' w7 X6
  have hd8 := HD.out.kp H8.out.k
  obtain ⟨s0, s1, s2, s3, s4, s5, s6, s7, s8, s9, s10, s11, s12, s13, s14, s15, s16, s17, s18, s19⟩ := ded_cells hd8
  rw [rounds_succ]
  go_upto_region 8 with fail
  clear s0 s1 s2 s3 s4 s5 s6 s7 s8 s9 s10 s11 s12 s13 s14 s15 s16 s17 s18 s19 hd8
  have kA := (Keeps.refl w8).alloc (.cells (dedC 66) 93)
  have HB := Lib.hid (H8.out.keep kA)
  have OB := Lib.hid (O8.out.keep kA)
  have IB := Lib.hid (I8.out.keep kA)
  have SB := Lib.hid (S8.out.kp kA)
  have RB := Lib.hid (R8.out.kp kA)
  have D6 := Lib.hid (Blk.new w8 93 (dedC 66))
  obtain ⟨u0, u1, u2, u3, u4, u5, u6, u7, u8, u9⟩ := dedb_cells D6.out
  clear kA H8 O8 I8 S8 R8
  generalize w8.alloc (.cells (dedC 66) 93) = X9 at *
  generalize w8.heap.size = q2 at *
  clear w8
  have hno : lookF strE ⟨#[66]⟩ [((⟨#[65]⟩ : ByteArray), Value.pointer (some ⟨N1 + 4, 0, none⟩))] 0 = none := by
    have : strE (⟨#[66]⟩ : ByteArray) ⟨#[65]⟩ = false := by decide
    simp [lookF, this]
  go_wp2_with (first | (go_at_call 78; (with_reducible refine (proc_1 w A p1 cp1 (N1 + 4) _ 65 _ _ _ _ X9 HB.out OB.out IB.out).mono ?_); rintro e wa ⟨rfl, hk7⟩; have HC := Lib.hid (HB.out.keep hk7); have OC := Lib.hid (OB.out.keep hk7); have IC := Lib.hid (IB.out.keep hk7); have SC := Lib.hid (SB.out.kp hk7); have RC := Lib.hid (RB.out.kp hk7); have HL7 := look1 Tryz.underlying171 RC.out false (z := Value.nilFunc) (by kernel_rfl); obtain ⟨v0, v1, v2, v3, v4, v5, v6, v7, v8, v9⟩ := dedb_cells (D6.out.kp hk7); clear hk7 u0 u1 u2 u3 u4 u5 u6 u7 u8 u9 D6 HB OB IB SB RB) | (go_at_call 127; (with_reducible refine (post127 w A _ [N1 + 4] _ 66 wa HC.out OC.out (by simp) hno hm2 hm1).mono ?_); rintro e wb ⟨⟨ve, rfl⟩, N2, A2, n2, c2, hN2, h8, o8, i8, s8, f8⟩; have HE := Lib.hid h8; have OE := Lib.hid o8; have IE := Lib.hid i8; have SE := Lib.hid s8; have FE := Lib.hid f8; have hN2' := Lib.hid hN2; clear h8 o8 i8 s8 f8 hN2 v0 v1 v2 v3 v4 v5 v6 v7 v8 v9 HL7))
  rw [rounds_succ]
  go_upto_region 12 with fail
  obtain ⟨p2, cp2, e2, -, -⟩ := OE.out.form (by simp)
  simp only [List.cons_append, List.nil_append, List.length_cons, List.length_nil, Nat.zero_add, Nat.reduceAdd] at e2 HE OE
  rw [e2] at HE OE
  have hlt1 : N1 + 4 < N2 := by have := IC.out.it.lt; have := hN2'.out; omega
  have hw1 : w.heap.size ≤ N1 := HW1.out
  have PA : Pre 65 (N1 + 4) (N1 + 2) (N1 + 3) (N1 + 1) wb := ⟨⟨IC.out.it.po FE.out HC.out OC.out (by decide) (by decide), IC.out.ib.po FE.out HC.out OC.out (by decide) (by decide), IC.out.lb.po FE.out HC.out OC.out (by decide) (by decide)⟩, SC.out.po FE.out HC.out OC.out (by decide) (by decide)⟩
  have f66 : lookF strE ⟨#[66]⟩ [((⟨#[65]⟩ : ByteArray), Value.pointer (some ⟨N1 + 4, 0, none⟩)), (⟨#[66]⟩, Value.pointer (some ⟨N2 + 4, 0, none⟩))] 0 = some (1, .pointer (some ⟨N2 + 4, 0, none⟩)) := by
    have h1 : strE (⟨#[66]⟩ : ByteArray) ⟨#[65]⟩ = false := by decide
    have h2 : strE (⟨#[66]⟩ : ByteArray) ⟨#[66]⟩ = true := by decide
    simp [lookF, h1, h2]
  have f65 : lookF strE ⟨#[65]⟩ [((⟨#[65]⟩ : ByteArray), Value.pointer (some ⟨N1 + 4, 0, none⟩)), (⟨#[66]⟩, Value.pointer (some ⟨N2 + 4, 0, none⟩))] 0 = some (0, .pointer (some ⟨N1 + 4, 0, none⟩)) := by
    have h1 : strE (⟨#[65]⟩ : ByteArray) ⟨#[65]⟩ = true := by decide
    simp [lookF, h1]
  have PT := Lib.hid (proceed_two w A p2 cp2 _ ⟨N1 + 4, N1 + 2, N1 + 3, N1 + 1, N2 + 4, N2 + 2, N2 + 3, N2 + 1⟩ 0 1 wb HE.out OE.out PA ⟨IE.out, SE.out⟩ f65 f66 ⟨show w.heap.size ≤ N1 + 4 by omega, show w.heap.size ≤ N1 + 1 by omega, show w.heap.size ≤ N2 + 4 by omega, show w.heap.size ≤ N2 + 1 by omega⟩ ⟨show N1 + 4 ≠ N2 + 4 by omega, show N1 + 1 ≠ N2 + 1 by omega⟩ HT.out)
  clear PA f65 f66 e2 IC SC RC FE HC OC IE SE HE OE
  go_upto_region 15 with (go_at_call 78; (with_reducible refine PT.out.mono ?_); rintro e wc ⟨rfl, hf1, hf2, hf3, hf4⟩; have HF := Lib.hid hf1; have OF := Lib.hid hf2; have AF := Lib.hid hf3; have BF := Lib.hid hf4; clear hf1 hf2 hf3 hf4)
  have h7 := HF.out.hb.cell7
  have r0' : wc.cell? ⟨p2, 0, none⟩ = some (.pointer (some ⟨N1 + 4, 0, none⟩)) := own_cell OF.out.1 (j := 0) rfl
  have r1' : wc.cell? ⟨p2, 1, none⟩ = some (.pointer (some ⟨N2 + 4, 0, none⟩)) := own_cell OF.out.1 (j := 1) rfl
  obtain ⟨ga, ga2, cpa, cpa2, IA, oa1, oa2, -⟩ := AF.out
  obtain ⟨gb, gb2, cpb, cpb2, IB, ob1, ob2, -⟩ := BF.out
  go_upto_region 16 with fail
  obtain ⟨x0, x1, x2, x3, x4, x5, x6, x7, x8, x9⟩ := IA.track
  have kT := (Keeps.refl wc).alloc (.cells (trkC 65 ga2 cpa2 (N1 + 2) (N1 + 3) ga cpa) 64)
  have BT := Blk.new wc 64 (trkC 65 ga2 cpa2 (N1 + 2) (N1 + 3) ga cpa)
  have XT := Lib.hid (show RecIn tkR (wc.alloc (.cells (trkC 65 ga2 cpa2 (N1 + 2) (N1 + 3) ga cpa) 64)) (wc.alloc (.cells (trkC 65 ga2 cpa2 (N1 + 2) (N1 + 3) ga cpa) 64)).heap.size (some ⟨wc.heap.size, 0, none⟩) [trkE 65 ga2 cpa2 (N1 + 2) (N1 + 3) ga cpa] from RecIn.of_blk (fun _ => rfl) BT rfl (by simp))
  have ONE := Lib.hid (show 1 = [trkE 65 ga2 cpa2 (N1 + 2) (N1 + 3) ga cpa].length from rfl)
  have LE := Lib.hid (show ([] : List Trk).length + [trkE 65 ga2 cpa2 (N1 + 2) (N1 + 3) ga cpa].length ≤ 1000000 by simp)
  have OT := Lib.hid ((OwnR.nil (R := tkR) wc).keep kT)
  have KT := Lib.hid kT
  clear kT BT
  refine wp_loop_rounds 3 ?_
  rw [rounds_succ]
  go_upto_region 19 with (at_builtin; refine wpList_appR tkOk (w0 := wc) rfl (.tmp 70) (.tmp 75) rfl _ [] rfl OT.out _ _ _ [trkE 65 ga2 cpa2 (N1 + 2) (N1 + 3) ga cpa] rfl XT.out ONE LE ?_; intro A5 n5 c5 w5 ho5 hg5; have O5 := Lib.hid ho5; have G5 := Lib.hid hg5; clear ho5 hg5)
  have g5 := G5.out
  have kc5 : Keeps wc w5 := grown_keeps KT.out g5 (fun k hk => by have := (own_lt OT.out.1 hk).1; omega)
  have K5 := Lib.hid kc5
  have y1 : w5.cell? ⟨p2, 1, none⟩ = some (.pointer (some ⟨N2 + 4, 0, none⟩)) := cell_keep r1' kc5
  have IB5 := IB.keep kc5
  obtain ⟨z0, z1, z2, z3, z4, z5, z6, z7, z8, z9⟩ := IB5.track
  clear x0 x1 x2 x3 x4 x5 x6 x7 x8 x9 r0' r1' h7 g5 G5 OT KT XT ONE LE
  simp only [List.nil_append] at O5
  have kT := (Keeps.refl w5).alloc (.cells (trkC 66 gb2 cpb2 (N2 + 2) (N2 + 3) gb cpb) 64)
  have BT := Blk.new w5 64 (trkC 66 gb2 cpb2 (N2 + 2) (N2 + 3) gb cpb)
  have XT := Lib.hid (show RecIn tkR (w5.alloc (.cells (trkC 66 gb2 cpb2 (N2 + 2) (N2 + 3) gb cpb) 64)) (w5.alloc (.cells (trkC 66 gb2 cpb2 (N2 + 2) (N2 + 3) gb cpb) 64)).heap.size (some ⟨w5.heap.size, 0, none⟩) [trkE 66 gb2 cpb2 (N2 + 2) (N2 + 3) gb cpb] from RecIn.of_blk (fun _ => rfl) BT rfl (by simp))
  have ONE := Lib.hid (show 1 = [trkE 66 gb2 cpb2 (N2 + 2) (N2 + 3) gb cpb].length from rfl)
  have LE := Lib.hid (show [trkE 65 ga2 cpa2 (N1 + 2) (N1 + 3) ga cpa].length + [trkE 66 gb2 cpb2 (N2 + 2) (N2 + 3) gb cpb].length ≤ 1000000 by simp)
  have OT := Lib.hid (O5.out.keep kT)
  have KT := Lib.hid kT
  clear kT BT
  go_wp2_with fail
  rw [rounds_succ]
  go_upto_region 19 with (at_builtin; refine wpList_appR tkOk (w0 := wc) rfl (.tmp 70) (.tmp 75) rfl _ [trkE 65 ga2 cpa2 (N1 + 2) (N1 + 3) ga cpa] rfl OT.out _ _ _ [trkE 66 gb2 cpb2 (N2 + 2) (N2 + 3) gb cpb] rfl XT.out ONE LE ?_; intro A6 n6 c6 w6 ho6 hg6; have O6 := Lib.hid ho6; have G6 := Lib.hid hg6; clear ho6 hg6)
  go_wp2_with fail
  rw [rounds_succ]
  go_wp2_with fail
  refine bodyPost_ret (v := .tuple #[.slice A6 n6 c6, .int .i64 0]) ?_ rfl ?_
  · simp [results, Tryz.results30, go_sem]
  · have kw := HF.out.k
    refine ⟨A6, n6, c6, _, _, _, _, _, _, _, _, _, _, _, _, rfl, ⟨ownsRow_low O6.out.1 kw.size, kw.trans O6.out.2⟩, trk_ok (IA.keep O6.out.2) (own_keeps oa1 O6.out.2) (own_keeps oa2 O6.out.2), trk_ok (IB.keep O6.out.2) (own_keeps ob1 O6.out.2) (own_keeps ob2 O6.out.2)⟩
end
end Go.Proofs.YthkmpegpmpdhaaaGreatDoor
