/- Part of the proof of TopOwnItem. Conditions: as stated in each theorem. -/
import Derived.Test.YthkmpegpmpdhaaaGreatDoorZGb
import Derived.Test.YthkmpegpmpdhaaaGreatDoorProg
import Derived.WalkMore
import Derived.Maps.OwnIn
import Derived.Deep.LoopGhost
import Derived.RangeFuncNested
import Derived.RangeFuncCalls
import Derived.RangeFuncLeaves
import Derived.RangeFuncWrites
import Derived.Shelf.Abstract
import Derived.Shelf.RegionOpen
import Derived.OwnWalkIn
import Derived.TacticsInMore
import Derived.LoopNIn
import Derived.LoopIn
import Derived.RangeFuncBound
import Derived.WalkKit
import Derived.WalkSpells
import Derived.WalkLawsBesides
import Derived.Laws.EntriesVeiled
import Derived.ProofKit
import Derived.OpenShut
import Derived.Lib.Hide
import Derived.BigQuiet
import Derived.Deep.QuietTactic
import Derived.Deep.CutRange
import Derived.StillTailTactics
import Derived.Lib.SliceRun
import Derived.RangeFuncRecord
import Derived.Carry
import Derived.ChangeKeysEq
import Derived.Below
import Derived.Laws.OwnMore
import Derived.Deep.AppendLies
import Derived.Deep.Draws
import Derived.Laws.Rows
import Derived.Maps.AppendAt
import Derived.RegionTactic
import Derived.OwnWalk
import Derived.Deep.RegionHeld3
namespace Go.Proofs.YthkmpegpmpdhaaaGreatDoor
section
open Go.Shelf Go.ChangeShapes Go.WideShapes Go.ChangeAt Go.RowKit
set_option linter.unusedSimpArgs false
set_option linter.unusedVariables false
theorem less169 (x y : Int) (w : World) : Calls Tryz.prog 169 #[.int .i64 x, .int .i64 y] w fun e w' => e = .returned (.bool (decide (x < y))) ∧ w = w' := by
  by_cases h : x < y
  · rw [decide_eq_true h]
    go_enter Tryz.func169, Tryz.ntmps169
    go_wp2_with (go_at_call 142; (with_reducible refine (nan142 _ _).mono ?_); rintro e w' ⟨rfl, rfl⟩)
    go_ret
    exact ⟨rfl, rfl⟩
  · rw [decide_eq_false h]
    have hd : decide (x < y) = false := by simpa using h
    go_enter Tryz.func169, Tryz.ntmps169
    go_wp2_with (go_at_call 142; (with_reducible refine (nan142 _ _).mono ?_); rintro e w' ⟨rfl, rfl⟩)
    go_ret
    exact ⟨rfl, rfl⟩
/-- Numbers that do not fall, from the k-th pair on. -/
def SrtFrom (k : Nat) (l : List Int) : Prop := ∀ i x y, k ≤ i → l[i]? = some x → l[i + 1]? = some y → x ≤ y
def SrtPost (l : List Int) (w : World) (e : Ending) (w' : World) : Prop := (∃ b, e = .returned (.bool b) ∧ (b = true ↔ SrtFrom 0 l)) ∧ Keeps w w'
set_option maxHeartbeats 2000000 in
set_option maxRecDepth 100000 in
theorem sorted139 (l : List Int) (A : Option Addr) (n c : Nat) (w : World) (h : RecIn intR w w.heap.size A l) (hn : Hid (n = l.length)) (hnm : n ≤ 1000000) :
    Calls Tryz.prog 139 #[.slice A n c] w (SrtPost l w) := by
  have HD := Lib.hid h
  clear h
  have nw : IntKind.i64.wrap ((n : Int) - 1) = (n : Int) - 1 := wrap_in (by omega) (by omega)
  go_enter Tryz.func139, Tryz.ntmps139
  go_wp2_with fail
  go_loopw [3] (fun i wx => ∃ I : Int, -1 ≤ I ∧ I < (n : Int) ∧ i = .int .i64 I ∧ Keeps w wx ∧ SrtFrom I.toNat l) (fun i _ => (intOf i).toNat)
  case atStart => exact ⟨(n : Int) - 1, by omega, by omega, rfl, Keeps.refl w, fun i x y h1 h2 h3 => by have := (List.getElem?_eq_some_iff.1 h3).1; have := hn.out; omega⟩
  case round =>
    obtain ⟨I, hI, hIn, rfl, hK, hs⟩ := hrel
    have HK := Lib.hid hK; have HS := Lib.hid hs
    clear hK hs nw
    have hnl := hn.out
    by_cases hp : 0 < I
    · obtain ⟨m, rfl⟩ : ∃ m : Nat, I = (m : Int) := ⟨I.toNat, by omega⟩
      obtain ⟨j, hj⟩ : ∃ j, m = j + 1 := ⟨m - 1, by omega⟩
      have HJ := Lib.hid hj
      obtain ⟨y, hy⟩ : ∃ y, l[m]? = some y := ⟨_, List.getElem?_eq_getElem (by omega)⟩
      obtain ⟨x, hx⟩ : ∃ x, l[j]? = some x := ⟨_, List.getElem?_eq_getElem (by omega)⟩
      have HX := Lib.hid hx; have HY := Lib.hid hy
      obtain ⟨b, o, rfl, hb, c0⟩ := (HD.out.keep HK.out).int hx
      obtain ⟨b', o', e, hb', c1⟩ := (HD.out.keep HK.out).int hy
      injection e with e
      injection e with e1 e2
      subst e1 e2
      have m0 : (0 : Int) ≤ (m : Int) := by omega
      have j0 : (0 : Int) ≤ (j : Int) := by omega
      have mn : (m : Int) < (n : Int) := by omega
      have jn : (j : Int) < (n : Int) := by omega
      have mj : (m : Int) - 1 = (j : Int) := by omega
      have mw : IntKind.i64.wrap ((m : Int) - 1) = (j : Int) := by rw [mj]; exact wrap_in (by omega) (by omega)
      have mw2 : IntKind.i64.wrap (j : Int) = (j : Int) := wrap_in (by omega) (by omega)
      have hp2 : decide ((0 : Int) < (m : Int)) = true := by simpa using hp
      have HC := Lib.hid (show ∀ X, Calls Tryz.prog 169 #[.int .i64 y, .int .i64 x] X (fun e w' => e = .returned (.bool (decide (y < x))) ∧ w' = X) from fun X => (less169 y x X).mono (fun e w' h => ⟨h.1, h.2.symm⟩))
      clear hx hy hnl hj
      by_cases hlt : y < x
      · have d : decide (y < x) = true := decide_eq_true hlt
        rw [d] at HC
        go_upto_region 4 with fail
        go_quiet ((go_at_call 169; exact Calls.quiet_of_same (HC.out _)))
        go_wp2_with fail
        go_ret
        exact ⟨⟨false, rfl, fun e => (by cases e), fun h => absurd (h j x y (by omega) HX.out (by rw [← HJ.out]; exact HY.out)) (by omega)⟩, HK.out.trans ((Keeps.refl wr).drewN _)⟩
      · have d : decide (y < x) = false := decide_eq_false hlt
        rw [d] at HC
        go_upto_region 4 with fail
        go_quiet ((go_at_call 169; exact Calls.quiet_of_same (HC.out _)))
        go_wp2_with fail
        go_roundw
        case rel =>
          refine ⟨(j : Int), by omega, by omega, by go_num, HK.out.trans ((Keeps.refl wr).drewN _), fun i x' y' h1 h2 h3 => ?_⟩
          have hj := HJ.out
          rcases Nat.lt_or_ge j i with h4 | h4
          · exact HS.out i x' y' (by omega) h2 h3
          · have : i = j := by omega
            subst this
            rw [HX.out] at h2; rw [← hj, HY.out] at h3
            cases h2; cases h3
            omega
        case measure => simp [intOf]; omega
    · have hp2 : decide (0 < I) = false := by simpa using hp
      have HS0 := Lib.hid (show SrtFrom 0 l from fun i x y h1 h2 h3 => HS.out i x y (by omega) h2 h3)
      clear hnl
      go_wp2_with fail
      go_ret
      exact ⟨⟨true, rfl, fun _ => HS0.out, fun _ => rfl⟩, HK.out⟩
/-- What the labels of a track have to be. -/
def LabP (si : List Int) (lbn : Nat) (st : List Stp) : Prop := si.length ≠ 0 ∧ si.length = lbn ∧ SrtFrom 0 si ∧ ∃ x y, si[0]? = some x ∧ st[0]? = some y ∧ x ≤ y.ar
def LabPost (si : List Int) (lbn : Nat) (st : List Stp) (w : World) (e : Ending) (w' : World) : Prop := (∃ b, e = .returned (.bool b) ∧ (b = true ↔ LabP si lbn st)) ∧ Keeps w w'
theorem lab_post {si : List Int} {lbn : Nat} {st : List Stp} {w w' : World} {b : Bool} (h : b = true ↔ LabP si lbn st) (hk : Keeps w w') : LabPost si lbn st w (.returned (.bool b)) w' := ⟨⟨b, rfl, h⟩, hk⟩
open Classical in
theorem sorted_post (l : List Int) (A : Option Addr) (n c : Nat) (w : World) (h : RecIn intR w w.heap.size A l) (hn : Hid (n = l.length)) (hnm : n ≤ 1000000) :
    Calls Tryz.prog 139 #[.slice A n c] w (BoolPost (decide (SrtFrom 0 l)) w) := by
  refine (sorted139 l A n c w h hn hnm).mono ?_
  rintro e w' ⟨⟨b, rfl, hb⟩, hk⟩
  refine bool_post ?_ hk
  by_cases hs : SrtFrom 0 l
  · rw [decide_eq_true hs]; exact (hb.2 hs).symm
  · rw [decide_eq_false hs]
    cases b
    · rfl
    · exact absurd (hb.1 rfl) hs
set_option maxRecDepth 100000 in
set_option maxHeartbeats 8000000 in
theorem labels87 (t : Trk) (w : World) (h1 : RecIn stR w w.heap.size t.stA t.st) (h2 : RecIn intR w w.heap.size t.siA t.si) (hst : t.st.length ≤ 1000000) (hs0 : t.st.length ≠ 0) (hsi : t.si.length ≤ 1000000) :
    Calls Tryz.prog 87 #[tkA t] w (LabPost t.si t.lb.length t.st w) := by
  have k1 := (Keeps.refl w).alloc (.cells #[.string t.pl, .int .i64 t.pf, .int .i64 t.pt, .int .i64 t.pc, .int .i64 t.pa, .slice t.stA t.st.length t.stc, .bool t.lost, .slice t.siA t.si.length t.sic, .slice t.lbA t.lb.length t.lbc, .slice t.seA t.se.length t.sec] 64)
  have HB := Blk.new w 64 #[.string t.pl, .int .i64 t.pf, .int .i64 t.pt, .int .i64 t.pc, .int .i64 t.pa, .slice t.stA t.st.length t.stc, .bool t.lost, .slice t.siA t.si.length t.sic, .slice t.lbA t.lb.length t.lbc, .slice t.seA t.se.length t.sec]
  obtain ⟨pl, pf, pt, pc, pa, st, stA, stc, lost, si, siA, sic, lb, lbA, lbc, se, seA, sec⟩ := t
  simp only at h1 h2 hst hs0 hsi k1 HB ⊢
  change Calls Tryz.prog 87 #[.agg #[.string pl, .int .i64 pf, .int .i64 pt, .int .i64 pc, .int .i64 pa, .slice stA st.length stc, .bool lost, .slice siA si.length sic, .slice lbA lb.length lbc, .slice seA se.length sec]] w _
  obtain ⟨q, hq⟩ : ∃ q, si.length = q := ⟨_, rfl⟩
  obtain ⟨n, hn⟩ : ∃ n, st.length = n := ⟨_, rfl⟩
  have HQ := Lib.hid hq
  have HN := Lib.hid hn
  rw [hq] at hsi k1 HB ⊢
  rw [hn] at hst hs0 k1 HB ⊢
  generalize se.length = s at *
  generalize lb.length = m at *
  have K1 := Lib.hid k1
  by_cases hq0 : q = 0
  · subst hq0
    have HF := Lib.hid (show (false = true) ↔ LabP si m st from ⟨fun e => (by cases e), fun h => absurd HQ.out h.1⟩)
    clear h1 h2 hn hq k1 HB
    go_enter Tryz.func87, Tryz.ntmps87
    go_wp2_with fail
    go_ret
    exact lab_post HF.out K1.out
  have q0 : ((q : Int) == 0) = false := by simp; omega
  by_cases hqm : q = m
  case neg =>
    have HF := Lib.hid (show (false = true) ↔ LabP si m st from ⟨fun e => (by cases e), fun h => absurd (HQ.out.symm.trans h.2.1) hqm⟩)
    have qm : ((q : Int) != (m : Int)) = true := by simp; omega
    clear h1 h2 hn hq k1 HB
    go_enter Tryz.func87, Tryz.ntmps87
    go_wp2_with fail
    go_ret
    exact lab_post HF.out K1.out
  subst hqm
  have qm : ((q : Int) != (q : Int)) = false := by simp
  obtain ⟨x, hx⟩ : ∃ x, si[0]? = some x := ⟨_, List.getElem?_eq_getElem (by omega)⟩
  obtain ⟨y, hy⟩ : ∃ y, st[0]? = some y := ⟨_, List.getElem?_eq_getElem (by omega)⟩
  have HX := Lib.hid hx
  have HY := Lib.hid hy
  obtain ⟨b, o, rfl, hb, c0⟩ := (h2.keep k1).int hx
  obtain ⟨b', o', rfl, hb', e0, e1, e2, e3⟩ := (h1.keep k1).stp hy
  clear e0 e2 e3
  obtain ⟨yo, ya, yd, yl⟩ := y
  simp only [Nat.zero_mul, Nat.add_zero] at c0 e1
  obtain ⟨bs, hbs⟩ : ∃ bs, (@decide (SrtFrom 0 si) (Classical.propDecidable _)) = bs := ⟨_, rfl⟩
  have HBS := Lib.hid (show bs = true ↔ SrtFrom 0 si by rw [← hbs]; simp)
  have q1 : (0 : Int) < (q : Int) := by omega
  have n1 : (0 : Int) < (n : Int) := by omega
  have C := Lib.hid (show ∀ X, Keeps (w.alloc (.cells #[.string pl, .int .i64 pf, .int .i64 pt, .int .i64 pc, .int .i64 pa, .slice (some ⟨b', o', none⟩) n stc, .bool lost, .slice (some ⟨b, o, none⟩) q sic, .slice lbA q lbc, .slice seA s sec] 64)) X → Calls Tryz.prog 139 #[.slice (some ⟨b, o, none⟩) q sic] X (BoolPost bs X) from fun X hX => by
    have := sorted_post si (some ⟨b, o, none⟩) q sic X (h2.keep (k1.trans hX)) (Lib.hid hq.symm) hsi
    rw [hbs] at this
    exact this)
  have a5 := After.cell (HB.cell 5) (by simp)
  have a7 := After.cell (HB.cell 7) (by simp)
  have a0 := After.cell c0 hb
  have a1 := After.cell e1 hb'
  have f7 := HB.cell 7
  have f8 := HB.cell 8
  clear h1 h2 hn hq k1 hx hy hbs HB
  cases bs
  · have HF := Lib.hid (show (false = true) ↔ LabP si q st from ⟨fun e => (by cases e), fun h => absurd (HBS.out.2 h.2.2.1) (by simp)⟩)
    go_enter Tryz.func87, Tryz.ntmps87
    go_upto_region 3 with fail
    refine wp_region_after (by kernel_rfl) (by kernel_rfl) ?_
    repeat (go_big_quiet_step ((go_at_call 139; with_reducible exact after_call (C.out _ (After.ok _)))))
    refine wpQuiet_nil ?_
    intro _ hw'
    obtain ⟨⟨W1, hk1⟩, rfl⟩ := hw'
    have GH := Lib.hid (K1.out.trans hk1)
    clear C a0 a1 a5 a7
    go_wp2_with fail
    go_ret
    exact lab_post HF.out GH.out
  · by_cases hxy : x ≤ ya
    · have HF := Lib.hid (show LabP si q st from ⟨by rw [HQ.out]; exact hq0, HQ.out, HBS.out.1 rfl, _, _, HX.out, HY.out, hxy⟩)
      go_enter Tryz.func87, Tryz.ntmps87
      go_upto_region 3 with fail
      refine wp_region_after (by kernel_rfl) (by kernel_rfl) ?_
      repeat (go_big_quiet_step ((go_at_call 139; with_reducible exact after_call (C.out _ (After.ok _)))))
      refine wpQuiet_nil ?_
      intro _ hw'
      obtain ⟨⟨W1, hk1⟩, rfl⟩ := hw'
      have GH := Lib.hid (K1.out.trans hk1)
      clear C a0 a1 a5 a7
      go_wp2_with fail
      go_ret
      exact lab_post ⟨fun _ => HF.out, fun _ => rfl⟩ GH.out
    · have HF := Lib.hid (show (false = true) ↔ LabP si q st from ⟨fun e => (by cases e), fun h => by
        obtain ⟨-, -, -, x', y', h3, h4, h5⟩ := h
        rw [HX.out] at h3; rw [HY.out] at h4
        cases h3; cases h4
        exact absurd h5 hxy⟩)
      have hxyd : decide (x ≤ ya) = false := by simpa using hxy
      go_enter Tryz.func87, Tryz.ntmps87
      go_upto_region 3 with fail
      refine wp_region_after (by kernel_rfl) (by kernel_rfl) ?_
      repeat (go_big_quiet_step ((go_at_call 139; with_reducible exact after_call (C.out _ (After.ok _)))))
      refine wpQuiet_nil ?_
      intro _ hw'
      obtain ⟨⟨W1, hk1⟩, rfl⟩ := hw'
      have GH := Lib.hid (K1.out.trans hk1)
      clear C a0 a1 a5 a7
      go_wp2_with fail
      go_ret
      exact lab_post HF.out GH.out
end
section
open Go.Shelf Go.ChangeShapes Go.WideShapes Go.ChangeAt Go.RowKit
set_option linter.unusedSimpArgs false
set_option linter.unusedVariables false
/-- A track as it has to be. -/
def WfT (t : Trk) : Prop := stopsF t.st.length t.se.length t.st = true ∧ LabP t.si t.lb.length t.st
open Classical in
noncomputable def badW (t : Trk) : Bool := !decide (WfT t)
theorem badW_yes {t : Trk} (h : ¬ WfT t) : badW t = true := by simp [badW, h]
theorem badW_no {t : Trk} (h : WfT t) : badW t = false := by simp [badW, h]
theorem WfT.of {t : Trk} (h : badW t = false) : WfT t := by simpa [badW] using h
set_option maxRecDepth 100000 in
set_option maxHeartbeats 4000000 in
theorem bad85 (t : Trk) (w : World) (h : TrkOk w w.heap.size t) (hst : t.st.length ≤ 1000000) (hse : t.se.length ≤ 1000000) (hsi : t.si.length ≤ 1000000) :
    Calls Tryz.prog 85 #[tkA t] w (BoolPost (badW t) w) := by
  have k1 := (Keeps.refl w).alloc (.cells #[.string t.pl, .int .i64 t.pf, .int .i64 t.pt, .int .i64 t.pc, .int .i64 t.pa, .slice t.stA t.st.length t.stc, .bool t.lost, .slice t.siA t.si.length t.sic, .slice t.lbA t.lb.length t.lbc, .slice t.seA t.se.length t.sec] 64)
  have HB := Blk.new w 64 #[.string t.pl, .int .i64 t.pf, .int .i64 t.pt, .int .i64 t.pc, .int .i64 t.pa, .slice t.stA t.st.length t.stc, .bool t.lost, .slice t.siA t.si.length t.sic, .slice t.lbA t.lb.length t.lbc, .slice t.seA t.se.length t.sec]
  have HS := Lib.hid (stops86 t _ (h.keep k1).st hst hse)
  have HLB := Lib.hid (show t.st.length ≠ 0 → ∀ X, Keeps _ X → Calls Tryz.prog 87 #[tkA t] X (LabPost t.si t.lb.length t.st X) from fun hn X hX => labels87 t X (h.keep (k1.trans hX)).st (h.keep (k1.trans hX)).si hst hn hsi)
  obtain ⟨q, hq⟩ : ∃ q, stopsF t.st.length t.se.length t.st = q := ⟨_, rfl⟩
  have HQ := Lib.hid hq
  rw [hq] at HS
  have HN0 := Lib.hid (show q = true → t.st.length ≠ 0 from fun e => by
    subst e
    simp only [stopsF, Bool.and_eq_true, decide_eq_true_eq] at hq
    omega)
  obtain ⟨r, hr⟩ : ∃ r, badW t = r := ⟨_, rfl⟩
  have HR := Lib.hid hr
  rw [hr]
  have HWF := Lib.hid (show WfT t ↔ q = true ∧ LabP t.si t.lb.length t.st by unfold WfT; rw [hq])
  clear hq hr h hst hse hsi
  obtain ⟨pl, pf, pt, pc, pa, st, stA, stc, lost, si, siA, sic, lb, lbA, lbc, se, seA, sec⟩ := t
  simp only at HN0 HLB HWF k1 HB
  replace HS := Lib.hid (show Calls Tryz.prog 86 #[.agg #[.string pl, .int .i64 pf, .int .i64 pt, .int .i64 pc, .int .i64 pa, .slice stA st.length stc, .bool lost, .slice siA si.length sic, .slice lbA lb.length lbc, .slice seA se.length sec]] _ _ from HS.out)
  replace HLB := Lib.hid (show st.length ≠ 0 → ∀ X, Keeps (w.alloc (.cells #[.string pl, .int .i64 pf, .int .i64 pt, .int .i64 pc, .int .i64 pa, .slice stA st.length stc, .bool lost, .slice siA si.length sic, .slice lbA lb.length lbc, .slice seA se.length sec] 64)) X → Calls Tryz.prog 87 #[.agg #[.string pl, .int .i64 pf, .int .i64 pt, .int .i64 pc, .int .i64 pa, .slice stA st.length stc, .bool lost, .slice siA si.length sic, .slice lbA lb.length lbc, .slice seA se.length sec]] X (LabPost si lb.length st X) from HLB.out)
  change Calls Tryz.prog 85 #[.agg #[.string pl, .int .i64 pf, .int .i64 pt, .int .i64 pc, .int .i64 pa, .slice stA st.length stc, .bool lost, .slice siA si.length sic, .slice lbA lb.length lbc, .slice seA se.length sec]] w _
  obtain ⟨n1, e1⟩ : ∃ n, st.length = n := ⟨_, rfl⟩
  obtain ⟨n2, e2⟩ : ∃ n, si.length = n := ⟨_, rfl⟩
  rw [e1] at HS HLB HN0 k1 HB ⊢
  rw [e2] at HS HLB k1 HB ⊢
  generalize lb.length = n3 at *
  generalize se.length = n4 at *
  clear e1 e2
  have K1 := Lib.hid k1
  have SOF := Lib.hid (show ∀ X, Keeps (w.alloc (.cells #[.string pl, .int .i64 pf, .int .i64 pt, .int .i64 pc, .int .i64 pa, .slice stA n1 stc, .bool lost, .slice siA n2 sic, .slice lbA n3 lbc, .slice seA n4 sec] 64)) X → X.cell? ⟨w.heap.size, 0, none⟩ = some (.string pl) ∧ X.cell? ⟨w.heap.size, 1, none⟩ = some (.int .i64 pf) ∧ X.cell? ⟨w.heap.size, 2, none⟩ = some (.int .i64 pt) ∧ X.cell? ⟨w.heap.size, 3, none⟩ = some (.int .i64 pc) ∧ X.cell? ⟨w.heap.size, 4, none⟩ = some (.int .i64 pa) ∧ X.cell? ⟨w.heap.size, 5, none⟩ = some (.slice stA n1 stc) ∧ X.cell? ⟨w.heap.size, 6, none⟩ = some (.bool lost) ∧ X.cell? ⟨w.heap.size, 7, none⟩ = some (.slice siA n2 sic) ∧ X.cell? ⟨w.heap.size, 8, none⟩ = some (.slice lbA n3 lbc) ∧ X.cell? ⟨w.heap.size, 9, none⟩ = some (.slice seA n4 sec) from fun X hX => ⟨cell_keep (HB.cell 0) hX, cell_keep (HB.cell 1) hX, cell_keep (HB.cell 2) hX, cell_keep (HB.cell 3) hX, cell_keep (HB.cell 4) hX, cell_keep (HB.cell 5) hX, cell_keep (HB.cell 6) hX, cell_keep (HB.cell 7) hX, cell_keep (HB.cell 8) hX, cell_keep (HB.cell 9) hX⟩)
  clear k1 HB
  cases q
  · have HF := Lib.hid (show r = true by rw [← HR.out]; exact badW_yes (fun h => by have := (HWF.out.1 h).1; cases this))
    clear HLB SOF
    go_enter Tryz.func85, Tryz.ntmps85
    go_wp2_with (go_at_call 86; (with_reducible refine HS.out.mono ?_); rintro e w2 ⟨rfl, hk⟩; have HK := Lib.hid (K1.out.trans hk); clear hk)
    go_ret
    exact bool_post HF.out HK.out
  · have HL2 := Lib.hid (HLB.out (HN0.out rfl))
    clear HLB
    go_enter Tryz.func85, Tryz.ntmps85
    go_wp2_with (first | (go_at_call 86; (with_reducible refine HS.out.mono ?_); rintro e w2 ⟨rfl, hk⟩; obtain ⟨d0, d1, d2, d3, d4, d5, d6, d7, d8, d9⟩ := SOF.out _ hk; have HL3 := Lib.hid (HL2.out _ hk); have HK := Lib.hid (K1.out.trans hk); clear hk) | (go_at_call 87; (with_reducible refine HL3.out.mono ?_); rintro e w3 ⟨⟨b, rfl, hb⟩, hk⟩; have HBB := Lib.hid hb; have HK3 := Lib.hid (HK.out.trans hk); clear hk hb))
    go_ret
    refine bool_post (y := !b) ?_ HK3.out
    rw [← HR.out]
    cases b
    · exact badW_yes (fun h => by have := HBB.out.2 (HWF.out.1 h).2; cases this)
    · exact badW_no (HWF.out.2 ⟨trivial, HBB.out.1 rfl⟩)
/-- Tracks that can be read, with lengths that are lengths. -/
structure TrksOk (w : World) (B : Nat) (ts : List Trk) : Prop where
  ok : ∀ t ∈ ts, TrkOk w B t
  st : ∀ t ∈ ts, t.st.length ≤ 1000
  se : ∀ t ∈ ts, t.se.length ≤ 1000
  si : ∀ t ∈ ts, t.si.length ≤ 1000
  lb : ∀ t ∈ ts, t.lb.length ≤ 1000
theorem TrksOk.keep {w w' : World} {ts : List Trk} (h : TrksOk w w.heap.size ts) (hk : Keeps w w') : TrksOk w' w'.heap.size ts := ⟨fun t ht => (h.ok t ht).keep hk, h.st, h.se, h.si, h.lb⟩
set_option maxHeartbeats 1000000 in
set_option maxRecDepth 100000 in
theorem index138 (l : List Trk) (A : Option Addr) (n c : Nat) (w : World) (h : RecIn tkR w w.heap.size A l) (ht : TrksOk w w.heap.size l) (hn : Hid (n = l.length)) (hnm : n ≤ 9223372036854775807) :
    Calls Tryz.prog 138 #[.slice A n c, .func (.func 85) #[] #[]] w (IdxPost (l.any badW) w) := by
  have HD := Lib.hid h
  have HT := Lib.hid ht
  clear h ht
  obtain ⟨r, hr⟩ : ∃ r, l.any badW = r := ⟨_, rfl⟩
  have HR := Lib.hid hr
  rw [hr]
  clear hr
  go_enter Tryz.func138, Tryz.ntmps138
  go_wp2_with fail
  go_loopw [8, 5] (fun i z wx => ∃ k : Nat, k ≤ n ∧ i = .int .i64 (k : Int) ∧ Keeps w wx ∧ (l.take k).any badW = false) (fun i _ _ => n - (intOf i).toNat)
  case atStart => exact ⟨0, by omega, rfl, Keeps.refl w, by simp⟩
  case round =>
    obtain ⟨k, hk, rfl, hK, hall⟩ := hrel
    have HALL := Lib.hid hall
    have HK := Lib.hid hK
    clear hall hK
    have hnl := hn.out
    by_cases hkn : k < n
    · obtain ⟨x, hx⟩ : ∃ x, l[k]? = some x := ⟨_, List.getElem?_eq_getElem (by omega)⟩
      have HX := Lib.hid hx
      have hm := List.mem_of_getElem? hx
      obtain ⟨b, o, rfl, hb, c0, c1, c2, c3, c4, c5, c6, c7, c8, c9⟩ := (HD.out.keep HK.out).trk hx
      have kn : (k : Int) < (n : Int) := by omega
      have k0 : (0 : Int) ≤ (k : Int) := by omega
      have kw : IntKind.i64.wrap ((k : Int) + 1) = (k : Int) + 1 := wrap_in (by omega) (by omega)
      have HC := Lib.hid (bad85 x wr ((HT.out.ok x hm).keep HK.out) (by have := HT.out.st x hm; omega) (by have := HT.out.se x hm; omega) (by have := HT.out.si x hm; omega))
      obtain ⟨q, hq⟩ : ∃ q, badW x = q := ⟨_, rfl⟩
      have HQ := Lib.hid hq
      rw [hq] at HC
      obtain ⟨pl, pf, pt, pc, pa, st, stA, stc, lost, si, siA, sic, lb, lbA, lbc, se, seA, sec⟩ := x
      simp only at c0 c1 c2 c3 c4 c5 c6 c7 c8 c9
      replace HC := Lib.hid (show Calls Tryz.prog 85 #[.agg #[.string pl, .int .i64 pf, .int .i64 pt, .int .i64 pc, .int .i64 pa, .slice stA st.length stc, .bool lost, .slice siA si.length sic, .slice lbA lb.length lbc, .slice seA se.length sec]] wr (BoolPost q wr) from HC.out)
      clear hx hnl hq hm
      cases q
      · go_wp2_with (go_at_call 85; (with_reducible refine HC.out.mono ?_); rintro e w' ⟨rfl, hk'⟩; have HK2 := Lib.hid (HK.out.trans hk'); clear hk')
        go_roundw
        case rel => exact ⟨k + 1, by omega, by go_num, HK2.out, any_take HX.out HALL.out HQ.out⟩
        case measure => simp [intOf]; omega
      · have HF := Lib.hid (show r = true by rw [← HR.out]; exact any_yes HX.out HQ.out)
        go_wp2_with (go_at_call 85; (with_reducible refine HC.out.mono ?_); rintro e w' ⟨rfl, hk'⟩; have HK2 := Lib.hid (HK.out.trans hk'); clear hk')
        go_ret
        exact idx_post (by rw [HF.out]; simp) (by omega) (by omega) HK2.out
    · have e : l.take k = l := List.take_of_length_le (by omega)
      rw [e] at HALL
      have HF := Lib.hid (show r = false by rw [← HR.out]; exact HALL.out)
      have hkn' : ¬ ((k : Int) < (n : Int)) := by omega
      clear hnl e
      go_wp2_with fail
      go_ret
      exact idx_post (by rw [HF.out]; rfl) (by omega) (by omega) HK.out
theorem contains84 (l : List Trk) (A : Option Addr) (n c : Nat) (w : World) (h : RecIn tkR w w.heap.size A l) (ht : TrksOk w w.heap.size l) (hn : Hid (n = l.length)) (hnm : n ≤ 9223372036854775807) :
    Calls Tryz.prog 84 #[.slice A n c, .func (.func 85) #[] #[]] w (BoolPost (l.any badW) w) := by
  have HC := Lib.hid (index138 l A n c w h ht hn hnm)
  generalize l.any badW = q at HC ⊢
  clear h ht
  go_enter Tryz.func84, Tryz.ntmps84
  go_wp2_with (go_at_call 138; (with_reducible refine HC.out.mono ?_); rintro e w' ⟨I, h1, h2, h3, rfl, hk⟩; have H1 := Lib.hid h1; have HK := Lib.hid hk; clear h1 hk)
  go_ret
  exact bool_post H1.out.symm HK.out
noncomputable def wellF (l : List Trk) : Bool := decide (l.length ≤ 60) && !l.any badW
theorem well35 (l : List Trk) (A : Option Addr) (n c : Nat) (w : World) (h : RecIn tkR w w.heap.size A l) (ht : TrksOk w w.heap.size l) (hn : Hid (n = l.length)) (hnm : n ≤ 9223372036854775807) :
    Calls Tryz.prog 35 #[.slice A n c] w (BoolPost (wellF l) w) := by
  have HC := Lib.hid (contains84 l A n c w h ht hn hnm)
  have e : wellF l = (decide (n ≤ 60) && !l.any badW) := by rw [hn.out]; rfl
  rw [e]
  generalize l.any badW = q at HC ⊢
  clear h e ht
  by_cases h1 : 60 < n
  · have d1 : (60 : Int) < (n : Int) := by omega
    rw [decide_eq_false (by omega : ¬ n ≤ 60)]
    go_enter Tryz.func35, Tryz.ntmps35
    go_wp2_with fail
    go_ret
    exact bool_post rfl (Keeps.refl w)
  · have d1 : decide ((60 : Int) < (n : Int)) = false := by simp; omega
    have d2 : decide (60 < n) = false := by simp; omega
    rw [decide_eq_true (by omega : n ≤ 60)]
    go_enter Tryz.func35, Tryz.ntmps35
    go_wp2_with (go_at_call 84; (with_reducible refine HC.out.mono ?_); rintro e w' ⟨rfl, hk⟩; have HK := Lib.hid hk; clear hk)
    go_ret
    exact bool_post rfl HK.out
end
section
open Go.Shelf Go.ChangeShapes Go.WideShapes Go.ChangeAt Go.RowKit
set_option linter.unusedSimpArgs false
set_option linter.unusedVariables false
/-- In sorted times, the label at a time is the one ahead of the first later time. -/
theorem foldl_keep {si : List Int} {lb : List ByteArray} {time : Int} (o : ByteArray) (h : ∀ (k : Nat) (x : Int), si[k]? = some x → time < x) :
    (si.zip lb).foldl (fun o p => if p.1 ≤ time then p.2 else o) o = o := by
  induction si generalizing lb with
  | nil => rfl
  | cons x si ih =>
    cases lb with
    | nil => rfl
    | cons y lb =>
      have h0 := h 0 x rfl
      simp only [List.zip_cons_cons, List.foldl_cons]
      rw [if_neg (by omega)]
      exact ih (fun k x hk => h (k + 1) x (by simpa using hk))
theorem labR_none {si : List Int} {lb : List ByteArray} {time : Int} (h : ∀ (k : Nat) (x : Int), si[k]? = some x → time < x) : labR time si lb = ByteArray.empty := foldl_keep _ h
theorem labR_from (o : ByteArray) : ∀ (si : List Int) (lb : List ByteArray) (time : Int) (c : Nat) (y : ByteArray), c < si.length → lb[c]? = some y →
    (∀ k x, k ≤ c → si[k]? = some x → x ≤ time) → (∀ k x, c < k → si[k]? = some x → time < x) →
    (si.zip lb).foldl (fun o p => if p.1 ≤ time then p.2 else o) o = y := by
  intro si
  induction si generalizing o with
  | nil => intro lb time c y h; simp at h
  | cons x si ih =>
    intro lb time c y hc hy h1 h2
    cases lb with
    | nil => simp at hy
    | cons z lb =>
      have h0 := h1 0 x (Nat.zero_le _) rfl
      simp only [List.zip_cons_cons, List.foldl_cons]
      rw [if_pos h0]
      cases c with
      | zero =>
        simp only [List.getElem?_cons_zero, Option.some.injEq] at hy
        subst hy
        exact foldl_keep _ (fun k x hk => h2 (k + 1) x (by omega) (by simpa using hk))
      | succ c =>
        exact ih z lb time c y (by simpa using hc) (by simpa using hy) (fun k x hk hx => h1 (k + 1) x (by omega) (by simpa using hx)) (fun k x hk hx => h2 (k + 1) x (by omega) (by simpa using hx))
theorem SrtFrom.mono {l : List Int} (h : SrtFrom 0 l) : ∀ (d i : Nat) (x y : Int), l[i]? = some x → l[i + d]? = some y → x ≤ y := by
  intro d
  induction d with
  | zero => intro i x y h1 h2; rw [Nat.add_zero] at h2; rw [h1] at h2; cases h2; omega
  | succ d ih =>
    intro i x y h1 h2
    obtain ⟨z, hz⟩ : ∃ z, l[i + d]? = some z := ⟨_, List.getElem?_eq_getElem (by have := (List.getElem?_eq_some_iff.1 h2).1; omega)⟩
    have := ih i x z h1 hz
    have := h (i + d) z y (by omega) hz (by rw [← h2]; congr 1)
    omega
/-- What a search for the first later time answers. -/
def FirstLater (time : Int) (si : List Int) (r : Nat) : Prop := r ≤ si.length ∧ (∀ x, r ≠ 0 → si[r - 1]? = some x → x ≤ time) ∧ (∀ x, si[r]? = some x → time < x)
theorem labR_at {si : List Int} {lb : List ByteArray} {time : Int} {r : Nat} (hs : SrtFrom 0 si) (hr : FirstLater time si r) {y : ByteArray} (h0 : r ≠ 0) (hy : lb[r - 1]? = some y) : labR time si lb = y := by
  obtain ⟨h1, h2, h3⟩ := hr
  refine labR_from _ si lb time (r - 1) y (by omega) hy (fun k x hk hx => ?_) (fun k x hk hx => ?_)
  · obtain ⟨z, hz⟩ : ∃ z, si[r - 1]? = some z := ⟨_, List.getElem?_eq_getElem (by omega)⟩
    have a := h2 z h0 hz
    have b := hs.mono (r - 1 - k) k x z hx (by rw [← hz]; congr 1; omega)
    omega
  · obtain ⟨z, hz⟩ : ∃ z, si[r]? = some z := ⟨_, List.getElem?_eq_getElem (by have := (List.getElem?_eq_some_iff.1 hx).1; omega)⟩
    have a := h3 z hz
    have b := hs.mono (k - r) r z x hz (by rw [← hx]; congr 1; omega)
    omega
theorem labR_zero {si : List Int} {lb : List ByteArray} {time : Int} (hs : SrtFrom 0 si) (hr : FirstLater time si 0) : labR time si lb = ByteArray.empty := by
  refine labR_none (fun k x hx => ?_)
  obtain ⟨z, hz⟩ : ∃ z, si[0]? = some z := ⟨_, List.getElem?_eq_getElem (by have := (List.getElem?_eq_some_iff.1 hx).1; omega)⟩
  have a := hr.2.2 z hz
  have b := hs.mono k 0 z x hz (by rw [← hx]; congr 1; omega)
  omega
set_option maxRecDepth 100000 in
theorem later171 (si : List Int) (A : Option Addr) (n c p q m : Nat) (time : Int) (w : World) (h : RecIn intR w w.heap.size A si) (hp : w.cell? ⟨p, 7, none⟩ = some (.slice A n c)) (hq : w.cell? ⟨q, 0, none⟩ = some (.int .i64 time)) (hn : n = si.length) (hm : m < n) {x : Int} (hx : si[m]? = some x) :
    Calls Tryz.prog 171 #[.int .i64 (m : Int), .pointer (some ⟨p, 0, none⟩), .pointer (some ⟨q, 0, none⟩)] w (BoolPost (decide (time < x)) w) := by
  obtain ⟨b, o, rfl, hb, c0⟩ := h.int hx
  have mn : (m : Int) < (n : Int) := by omega
  have m0 : (0 : Int) ≤ (m : Int) := by omega
  obtain ⟨r, hr⟩ : ∃ r, decide (time < x) = r := ⟨_, rfl⟩
  rw [hr]
  clear h hn hx
  go_enter Tryz.func171, Tryz.ntmps171
  go_upto_region 1 with fail
  go_quiet (fail)
  go_wp2_with fail
  go_ret
  exact bool_post rfl ((Keeps.refl w).drewN _)
def SearchPost (n : Nat) (P : Nat → Bool) (w : World) (e : Ending) (w' : World) : Prop := ∃ r : Nat, e = .returned (.int .i64 (r : Int)) ∧ r ≤ n ∧ (r ≠ 0 → P (r - 1) = false) ∧ (r < n → P r = true) ∧ Keeps w w'
set_option maxRecDepth 100000 in
set_option maxHeartbeats 2000000 in
theorem search170 (n : Nat) (P : Nat → Bool) (F : FuncId) (cap : Array Value) (w : World) (hn : n ≤ 1000000)
    (hcall : ∀ args w, (callFunc F args).run Tryz.prog w = .ok (.enter F args) w)
    (hc : ∀ m, m < n → ∀ X, Keeps w X → Calls Tryz.prog F (#[.int .i64 (m : Int)] ++ cap) X (BoolPost (P m) X)) :
    Calls Tryz.prog 170 #[.int .i64 (n : Int), .func (.func F) #[] cap] w (SearchPost n P w) := by
  have HC := Lib.hid hc
  have HF := Lib.hid hcall
  clear hc hcall
  go_enter Tryz.func170, Tryz.ntmps170
  go_wp2_with fail
  go_loopw [5, 6] (fun i j wx => ∃ I J : Nat, I ≤ J ∧ J ≤ n ∧ i = .int .i64 (I : Int) ∧ j = .int .i64 (J : Int) ∧ Keeps w wx ∧ (I ≠ 0 → P (I - 1) = false) ∧ (J < n → P J = true)) (fun i j _ => (intOf j).toNat - (intOf i).toNat)
  case atStart => exact ⟨0, n, by omega, by omega, rfl, rfl, Keeps.refl w, fun h => absurd rfl h, fun h => absurd h (by omega)⟩
  case round =>
    obtain ⟨I, J, hIJ, hJ, rfl, rfl, hK, h1, h2⟩ := hrel
    have HK := Lib.hid hK
    have H1 := Lib.hid h1
    have H2 := Lib.hid h2
    clear hK h1 h2
    by_cases hlt : I < J
    · have d1 : (I : Int) < (J : Int) := by omega
      obtain ⟨m, hm⟩ : ∃ m, (I + J) / 2 = m := ⟨_, rfl⟩
      have hm1 : I ≤ m ∧ m < J := by omega
      have hmz : ((I : Int) + (J : Int)) / 2 = (m : Int) := by omega
      have HCM := Lib.hid (fun X hX => HC.out m (by omega) X (HK.out.trans hX))
      have E := Lib.hid (HF.out)
      obtain ⟨q, hq⟩ : ∃ q, P m = q := ⟨_, rfl⟩
      have HQ := Lib.hid hq
      rw [hq] at HCM
      clear hm hq
      have ef := HF.out
      cases q
      · go_wp2_with (go_at_fn F; (with_reducible refine (HCM.out _ (Keeps.refl _)).mono ?_); rintro e w' ⟨rfl, hk'⟩; have HK2 := Lib.hid (HK.out.trans hk'); clear hk')
        go_roundw
        case rel => exact ⟨m + 1, J, by omega, hJ, by go_num, rfl, HK2.out, fun _ => by rw [Nat.add_sub_cancel]; exact HQ.out, H2.out⟩
        case measure => simp [intOf]; omega
      · go_wp2_with (go_at_fn F; (with_reducible refine (HCM.out _ (Keeps.refl _)).mono ?_); rintro e w' ⟨rfl, hk'⟩; have HK2 := Lib.hid (HK.out.trans hk'); clear hk')
        go_roundw
        case rel => exact ⟨I, m, by omega, by omega, rfl, rfl, HK2.out, H1.out, fun _ => HQ.out⟩
        case measure => simp [intOf]; omega
    · have d1 : ¬ (I : Int) < (J : Int) := by omega
      go_wp2_with fail
      go_ret
      have e : I = J := by omega
      exact ⟨I, rfl, by omega, H1.out, fun h => (by rw [e]; exact H2.out (by omega)), HK.out⟩
/-- Whether the m-th of some times is later. -/
def laterF (time : Int) (si : List Int) (m : Nat) : Bool := match si[m]? with
  | some x => decide (time < x)
  | none => false
theorem laterF_at {time : Int} {si : List Int} {m : Nat} {x : Int} (h : si[m]? = some x) : laterF time si m = decide (time < x) := by unfold laterF; rw [h]
theorem first_of {time : Int} {si : List Int} {r : Nat} (h1 : r ≤ si.length) (h2 : r ≠ 0 → laterF time si (r - 1) = false) (h3 : r < si.length → laterF time si r = true) : FirstLater time si r := by
  refine ⟨h1, fun x h0 hx => ?_, fun x hx => ?_⟩
  · have := h2 h0
    rw [laterF_at hx] at this
    simpa using this
  · have := h3 (List.getElem?_eq_some_iff.1 hx).1
    rw [laterF_at hx] at this
    simpa using this
def LixPost (time : Int) (si : List Int) (w : World) (e : Ending) (w' : World) : Prop := ∃ r : Nat, e = .returned (.int .i64 ((r : Int) - 1)) ∧ FirstLater time si r ∧ Keeps w w'
set_option maxRecDepth 100000 in
set_option maxHeartbeats 4000000 in
theorem index140 (t : Trk) (time : Int) (w : World) (hsi : RecIn intR w w.heap.size t.siA t.si) (hn : t.si.length ≤ 1000000) :
    Calls Tryz.prog 140 #[tkA t, .int .i64 time] w (LixPost time t.si w) := by
  have ef : ∀ args w, (callFunc 171 args).run Tryz.prog w = .ok (.enter 171 args) w := enters_of Tryz.func171 (by kernel_rfl) rfl
  have k1 := (Keeps.refl w).alloc (.cells #[.string t.pl, .int .i64 t.pf, .int .i64 t.pt, .int .i64 t.pc, .int .i64 t.pa, .slice t.stA t.st.length t.stc, .bool t.lost, .slice t.siA t.si.length t.sic, .slice t.lbA t.lb.length t.lbc, .slice t.seA t.se.length t.sec] 64)
  have HB := Blk.new w 64 #[.string t.pl, .int .i64 t.pf, .int .i64 t.pt, .int .i64 t.pc, .int .i64 t.pa, .slice t.stA t.st.length t.stc, .bool t.lost, .slice t.siA t.si.length t.sic, .slice t.lbA t.lb.length t.lbc, .slice t.seA t.se.length t.sec]
  obtain ⟨pl, pf, pt, pc, pa, st, stA, stc, lost, si, siA, sic, lb, lbA, lbc, se, seA, sec⟩ := t
  simp only at hsi hn k1 HB ⊢
  obtain ⟨n, hn2⟩ : ∃ n, si.length = n := ⟨_, rfl⟩
  have HN := Lib.hid hn2
  have k2 := k1.alloc (.cells #[.int .i64 time] 3)
  have HB2 := Blk.new (w.alloc (.cells #[.string pl, .int .i64 pf, .int .i64 pt, .int .i64 pc, .int .i64 pa, .slice stA st.length stc, .bool lost, .slice siA si.length sic, .slice lbA lb.length lbc, .slice seA se.length sec] 64)) 3 #[.int .i64 time]
  have HB1 := HB.alloc (.cells #[.int .i64 time] 3)
  have HC := Lib.hid (search170 n (laterF time si) 171 #[.pointer (some ⟨w.heap.size, 0, none⟩), .pointer (some ⟨w.heap.size + 1, 0, none⟩)] ((w.alloc (.cells #[.string pl, .int .i64 pf, .int .i64 pt, .int .i64 pc, .int .i64 pa, .slice stA st.length stc, .bool lost, .slice siA si.length sic, .slice lbA lb.length lbc, .slice seA se.length sec] 64)).alloc (.cells #[.int .i64 time] 3)) (by omega) ef (fun m hm X hX => by
    obtain ⟨x, hx⟩ : ∃ x, si[m]? = some x := ⟨_, List.getElem?_eq_getElem (by omega)⟩
    rw [laterF_at hx]
    refine later171 si siA n sic w.heap.size (w.heap.size + 1) m time X (hsi.keep (k2.trans hX)) ?_ ?_ hn2.symm hm hx
    · rw [← hn2]; exact cell_keep (HB1.cell 7) hX
    · have := cell_keep (HB2.cell 0) hX
      rwa [World.size_alloc] at this))
  have K2 := Lib.hid k2
  have c7 := HB1.cell 7
  have fr := HB1.frozen 7
  change Calls Tryz.prog 140 #[.agg #[.string pl, .int .i64 pf, .int .i64 pt, .int .i64 pc, .int .i64 pa, .slice stA st.length stc, .bool lost, .slice siA si.length sic, .slice lbA lb.length lbc, .slice seA se.length sec], .int .i64 time] w _
  rw [hn2] at HC K2 c7 ⊢
  generalize st.length = n1 at *
  generalize lb.length = n3 at *
  generalize se.length = n4 at *
  have hnb : n ≤ 1000000 := by omega
  clear HB HB1 HB2 k1 k2 hsi hn hn2 ef
  go_enter Tryz.func140, Tryz.ntmps140
  go_wp2_with (go_at_call 170; (with_reducible refine HC.out.mono ?_); rintro e w' ⟨r, rfl, h1, h2, h3, hk⟩; have H := Lib.hid (And.intro h1 (And.intro h2 h3)); have HK := Lib.hid (K2.out.trans hk); clear h2 h3 hk)
  go_ret
  exact ⟨r, rfl, first_of (by rw [HN.out]; exact H.out.1) H.out.2.1 (by rw [HN.out]; exact H.out.2.2), HK.out⟩
set_option maxRecDepth 100000 in
set_option maxHeartbeats 4000000 in
theorem labelAt92 (t : Trk) (time : Int) (w : World) (h : TrkOk w w.heap.size t) (hn : t.si.length ≤ 1000000) (hln : t.si.length = t.lb.length) (hs : SrtFrom 0 t.si) :
    Calls Tryz.prog 92 #[tkA t, .int .i64 time] w fun e w' => e = .returned (.string (labR time t.si t.lb)) ∧ Keeps w w' := by
  have k1 := (Keeps.refl w).alloc (.cells #[.string t.pl, .int .i64 t.pf, .int .i64 t.pt, .int .i64 t.pc, .int .i64 t.pa, .slice t.stA t.st.length t.stc, .bool t.lost, .slice t.siA t.si.length t.sic, .slice t.lbA t.lb.length t.lbc, .slice t.seA t.se.length t.sec] 64)
  have HB := Blk.new w 64 #[.string t.pl, .int .i64 t.pf, .int .i64 t.pt, .int .i64 t.pc, .int .i64 t.pa, .slice t.stA t.st.length t.stc, .bool t.lost, .slice t.siA t.si.length t.sic, .slice t.lbA t.lb.length t.lbc, .slice t.seA t.se.length t.sec]
  have HC := Lib.hid (index140 t time _ (h.si.keep k1) hn)
  have HLB := Lib.hid (h.lb.keep k1)
  have HS := Lib.hid hs
  have HE := Lib.hid hln
  clear h hs hn hln
  obtain ⟨pl, pf, pt, pc, pa, st, stA, stc, lost, si, siA, sic, lb, lbA, lbc, se, seA, sec⟩ := t
  simp only at HE HS HLB k1 HB ⊢
  have c := HB.cell
  have d0 := c 0
  have d1 := c 1
  have d2 := c 2
  have d3 := c 3
  have d4 := c 4
  have d5 := c 5
  have d6 := c 6
  have d7 := c 7
  have d8 := c 8
  have d9 := c 9
  have K1 := Lib.hid k1
  have D8 := Lib.hid (show ∀ X, Keeps _ X → X.cell? ⟨w.heap.size, 8, none⟩ = some (.slice lbA lb.length lbc) from fun X hX => cell_keep (c 8) hX)
  replace HC := Lib.hid (show Calls Tryz.prog 140 #[.agg #[.string pl, .int .i64 pf, .int .i64 pt, .int .i64 pc, .int .i64 pa, .slice stA st.length stc, .bool lost, .slice siA si.length sic, .slice lbA lb.length lbc, .slice seA se.length sec], .int .i64 time] _ (LixPost time si _) from HC.out)
  change Calls Tryz.prog 92 #[.agg #[.string pl, .int .i64 pf, .int .i64 pt, .int .i64 pc, .int .i64 pa, .slice stA st.length stc, .bool lost, .slice siA si.length sic, .slice lbA lb.length lbc, .slice seA se.length sec], .int .i64 time] w _
  obtain ⟨n3, hn3⟩ : ∃ n, lb.length = n := ⟨_, rfl⟩
  have HN3 := Lib.hid hn3
  rw [hn3] at HC D8 HLB d8 K1 d0 d1 d2 d3 d4 d5 d6 d7 d9 ⊢
  generalize hn1 : st.length = n1 at *
  generalize hn2 : si.length = n2 at *
  generalize hn4 : se.length = n4 at *
  have HN2 := Lib.hid hn2
  clear HB k1 c hn1 hn2 hn4 hn3
  go_enter Tryz.func92, Tryz.ntmps92
  go_wp2_with fail
  refine HC.out.mono ?_
  rintro e w' ⟨r, rfl, h1, hk⟩
  have H := Lib.hid h1
  have HK := Lib.hid (K1.out.trans hk)
  have g8 := D8.out _ hk
  have HLB2 := Lib.hid (HLB.out.keep hk)
  clear hk HC D8 HLB d0 d1 d2 d3 d4 d5 d6 d7 d8 d9
  rcases r with _ | m
  · have HF := Lib.hid (labR_zero (lb := lb) HS.out H.out)
    have e0 : (((0 : Nat) : Int) - 1) = -1 := by omega
    clear h1
    rw [e0]
    go_wp2_with fail
    go_ret
    exact ⟨by rw [HF.out]; rfl, HK.out⟩
  · have hm : m < lb.length := by have := h1.1; have := HE.out; have := HN2.out; omega
    obtain ⟨y, hy⟩ : ∃ y, lb[m]? = some y := ⟨_, List.getElem?_eq_getElem hm⟩
    have HF := Lib.hid (labR_at HS.out H.out (by omega) (show lb[m + 1 - 1]? = some y from hy))
    obtain ⟨b, o, rfl, hb, c0⟩ := HLB2.out.str hy
    have e0 : (((m + 1 : Nat) : Int) - 1) = (m : Int) := by omega
    have m0 : (0 : Int) ≤ (m : Int) := by omega
    have mn : (m : Int) < (n3 : Int) := by have := HN3.out; omega
    clear h1 hm hy HLB2
    rw [e0]
    go_wp2_with fail
    go_ret
    exact ⟨by rw [HF.out]; rfl, HK.out⟩
end
section
open Go.Shelf Go.ChangeShapes Go.WideShapes Go.ChangeAt Go.RowKit
set_option linter.unusedSimpArgs false
set_option linter.unusedVariables false
/-- A track that is read and as it has to be. -/
structure GoodT (w : World) (t : Trk) : Prop where
  ok : TrkOk w w.heap.size t
  wf : WfT t
  si : t.si.length ≤ 1000
theorem GoodT.keep {w w' : World} {t : Trk} (h : GoodT w t) (hk : Keeps w w') : GoodT w' t := ⟨h.ok.keep hk, h.wf, h.si⟩
def trk0 : Trk := ⟨ByteArray.empty, 0, 0, 0, 0, [], none, 0, false, [], none, 0, [], none, 0, [], none, 0⟩
/-- The label of the i-th track at a time. -/
def labAt (ts : List Trk) (time : Int) (i : Int) : ByteArray := labR time ((ts[i.toNat]?).getD trk0).si ((ts[i.toNat]?).getD trk0).lb
/-- The labels in a container. -/
def contF (ts : List Trk) (time : Int) (ins : List Int) : List ByteArray := ins.map (labAt ts time)
theorem contF_snoc (ts : List Trk) (time : Int) (ins : List Int) {k : Nat} {i : Int} (h : ins[k]? = some i) : contF ts time (ins.take (k + 1)) = contF ts time (ins.take k) ++ [labAt ts time i] := by
  rw [take_snoc' h]; simp [contF]
set_option maxRecDepth 100000 in
set_option maxHeartbeats 4000000 in
theorem contents93 (ts : List Trk) (ins : List Int) (time : Int) (cb : Nat) (A tA : Option Addr) (n c m tc : Nat) (w : World) (hI : RecIn intR w w.heap.size A ins) (hn : Hid (n = ins.length)) (hT : RecIn tkR w w.heap.size tA ts) (hm : Hid (m = ts.length)) (hnx : n ≤ 1000) (hmx : m ≤ 1000)
    (h2 : w.cell? ⟨cb, 2, none⟩ = some (.int .i64 time)) (h10 : w.cell? ⟨cb, 10, none⟩ = some (.slice A n c)) (hG : ∀ t ∈ ts, GoodT w t) (hi : ∀ i ∈ ins, 0 ≤ i ∧ i < (m : Int)) :
    Calls Tryz.prog 93 #[.pointer (some ⟨cb, 0, none⟩), .slice tA m tc] w fun e w' => ∃ A' n' c', e = .returned (.slice A' n' c') ∧ OwnR strR w w' (.slice A' n' c') (contF ts time ins) := by
  have HI := Lib.hid hI
  have HT := Lib.hid hT
  have HG := Lib.hid hG
  have HB := Lib.hid hi
  have C2 := Lib.hid h2
  clear hI hT hG hi h2
  go_enter Tryz.func93, Tryz.ntmps93
  go_wp2_with fail
  go_loopw [13, 5] (fun i z wx => ∃ (k : Nat) (A' : Option Addr) (n' c' : Nat), k ≤ n ∧ i = .int .i64 (k : Int) ∧ z = .slice A' n' c' ∧ OwnR strR w wx (.slice A' n' c') (contF ts time (ins.take k))) (fun i _ _ => n - (intOf i).toNat)
  case atStart => exact ⟨0, none, 0, 0, by omega, rfl, rfl, by simp only [List.take_zero]; exact OwnR.nil w⟩
  case round =>
    obtain ⟨k, A', n', c', hk, rfl, rfl, hO⟩ := hrel
    have HO := Lib.hid hO
    have hkz := hO.2
    have hnl := hn.out
    clear hO h10
    by_cases hkn : k < n
    · obtain ⟨i, hx⟩ : ∃ i, ins[k]? = some i := ⟨_, List.getElem?_eq_getElem (by omega)⟩
      have hib := HB.out i (List.mem_of_getElem? hx)
      obtain ⟨j, rfl⟩ : ∃ j : Nat, i = (j : Int) := ⟨i.toNat, by omega⟩
      have hml := hm.out
      obtain ⟨t, ht⟩ : ∃ t, ts[j]? = some t := ⟨_, List.getElem?_eq_getElem (by omega)⟩
      have hgt := HG.out t (List.mem_of_getElem? ht)
      have HLA := Lib.hid (show labR time t.si t.lb = labAt ts time (j : Int) by unfold labAt; rw [show ((j : Int)).toNat = j by omega, ht]; rfl)
      have HSN := Lib.hid (contF_snoc ts time ins hx)
      obtain ⟨ib, io, rfl, hb1, a0⟩ := (HI.out.keep hkz).int hx
      obtain ⟨b, o, rfl, hb2, e0, e1, e2, e3, e4, e5, e6, e7, e8, e9⟩ := HT.out.trk ht
      have kn : (k : Int) < (n : Int) := by omega
      have k0 : (0 : Int) ≤ (k : Int) := by omega
      have j0 : (0 : Int) ≤ (j : Int) := by omega
      have jm : (j : Int) < (m : Int) := by omega
      have kw : IntKind.i64.wrap ((k : Int) + 1) = (k : Int) + 1 := wrap_in (by omega) (by omega)
      have HL := Lib.hid (fun X (hX : Keeps w X) => labelAt92 t time X (hgt.keep hX).ok (by have := hgt.si; omega) hgt.wf.2.2.1 hgt.wf.2.2.2.1)
      have LE := Lib.hid (show (contF ts time (ins.take k)).length + [labAt ts time (j : Int)].length ≤ 1000000 by simp [contF]; omega)
      have ONE := Lib.hid (show (1 : Nat) = [labAt ts time (j : Int)].length from rfl)
      rw [HLA.out] at HL
      generalize labAt ts time (j : Int) = L at *
      generalize hD : contF ts time (ins.take k) = D at *
      obtain ⟨pl, pf, pt, pc, pa, st, stA, stc, lost, si, siA, sic, lb, lbA, lbc, se, seA, sec⟩ := t
      simp only at e0 e1 e2 e3 e4 e5 e6 e7 e8 e9
      replace HL := Lib.hid (show ∀ X, Keeps w X → Calls Tryz.prog 92 #[.agg #[.string pl, .int .i64 pf, .int .i64 pt, .int .i64 pc, .int .i64 pa, .slice stA st.length stc, .bool lost, .slice siA si.length sic, .slice lbA lb.length lbc, .slice seA se.length sec], .int .i64 time] X (fun e w' => e = .returned (.string L) ∧ Keeps X w') from HL.out)
      have SOF := Lib.hid (show ∀ X, Keeps w X → (fun w' => w'.cell? ⟨b, o + j * 10, none⟩ = some (.string pl) ∧ w'.cell? ⟨b, o + j * 10 + 1, none⟩ = some (.int .i64 pf) ∧ w'.cell? ⟨b, o + j * 10 + 2, none⟩ = some (.int .i64 pt) ∧ w'.cell? ⟨b, o + j * 10 + 3, none⟩ = some (.int .i64 pc) ∧ w'.cell? ⟨b, o + j * 10 + 4, none⟩ = some (.int .i64 pa) ∧ w'.cell? ⟨b, o + j * 10 + 5, none⟩ = some (.slice stA st.length stc) ∧ w'.cell? ⟨b, o + j * 10 + 6, none⟩ = some (.bool lost) ∧ w'.cell? ⟨b, o + j * 10 + 7, none⟩ = some (.slice siA si.length sic) ∧ w'.cell? ⟨b, o + j * 10 + 8, none⟩ = some (.slice lbA lb.length lbc) ∧ w'.cell? ⟨b, o + j * 10 + 9, none⟩ = some (.slice seA se.length sec) ∧ w'.cell? ⟨cb, 2, none⟩ = some (.int .i64 time) ∧ Keeps w w') X from fun X hX => ⟨cell_keep e0 hX, cell_keep e1 hX, cell_keep e2 hX, cell_keep e3 hX, cell_keep e4 hX, cell_keep e5 hX, cell_keep e6 hX, cell_keep e7 hX, cell_keep e8 hX, cell_keep e9 hX, cell_keep C2.out hX, hX⟩)
      clear hx ht hgt hml hnl hD e0 e1 e2 e3 e4 e5 e6 e7 e8 e9 hib
      go_upto_region 5 with fail
      go_region_held3 (fun w' => w'.cell? ⟨b, o + j * 10, none⟩ = some (.string pl) ∧ w'.cell? ⟨b, o + j * 10 + 1, none⟩ = some (.int .i64 pf) ∧ w'.cell? ⟨b, o + j * 10 + 2, none⟩ = some (.int .i64 pt) ∧ w'.cell? ⟨b, o + j * 10 + 3, none⟩ = some (.int .i64 pc) ∧ w'.cell? ⟨b, o + j * 10 + 4, none⟩ = some (.int .i64 pa) ∧ w'.cell? ⟨b, o + j * 10 + 5, none⟩ = some (.slice stA st.length stc) ∧ w'.cell? ⟨b, o + j * 10 + 6, none⟩ = some (.bool lost) ∧ w'.cell? ⟨b, o + j * 10 + 7, none⟩ = some (.slice siA si.length sic) ∧ w'.cell? ⟨b, o + j * 10 + 8, none⟩ = some (.slice lbA lb.length lbc) ∧ w'.cell? ⟨b, o + j * 10 + 9, none⟩ = some (.slice seA se.length sec) ∧ w'.cell? ⟨cb, 2, none⟩ = some (.int .i64 time) ∧ Keeps w w') ((refine SOF.out _ ?_; (repeat (first | exact hkz | assumption | apply Keeps.drew | apply Keeps.alloc)); done)) ((first | (go_at_call 92; (with_reducible refine (HL.out _ hkz.drew).mono ?_); rintro e w4 ⟨rfl, hk4'⟩; have hk4 : Keeps wr w4 := ((Keeps.refl wr).drew).trans hk4'; have hk4z : Keeps w w4 := hkz.trans hk4; clear hk4') | (refine step_appR strOk (w0 := w) (by rfl) (.tmp 17) (.tmp 28) (by rfl) _ D (by rfl) (HO.out.keep (hk4.alloc (.cells #[.string L] 9))) _ _ _ [L] (by rfl) (RecIn.lit strOk w4 [L] #[.string L] rfl) ONE LE ?_; intro A5 n5 c5 w5 ho5 hg5; have O5 := Lib.hid ho5; have hk5 : Keeps w w5 := ho5.2; clear ho5 hg5)))
      rename_i hH
      clear hH
      go_wp2_with fail
      go_roundw
      case rel => exact ⟨k + 1, A5, n5, c5, by omega, by go_num, rfl, by rw [HSN.out]; exact O5.out⟩
      case measure => simp [intOf]; omega
    · have e : ins.take k = ins := List.take_of_length_le (by omega)
      rw [e] at HO
      have hkn' : ¬ ((k : Int) < (n : Int)) := by omega
      clear hnl e
      go_wp2_with fail
      go_ret
      exact ⟨A', n', c', rfl, HO.out⟩
end
section
open Go.Shelf Go.ChangeShapes Go.WideShapes Go.ChangeAt Go.RowKit
set_option linter.unusedSimpArgs false
set_option linter.unusedVariables false
theorem grownBy_cell (w : World) (p : Addr) (u : Value) : w.grownBy (w.setCell p u) (some p.block) :=
  ⟨rfl, rfl, rfl, by simp, fun i hi hne => Below.heap_setCell w p u i (fun e => hne (by rw [e]))⟩
/-- A container: the stop that it leaves, the one to which it comes, the track and the stop of its first departure, and what is inside. -/
structure Con where
  fr : Stp
  to_ : Stp
  tr : Nat
  sp : Nat
  ins : List Int
def conCells (c : Con) (v : Value) : Array Value := #[.int .i64 c.fr.of_, .int .i64 c.fr.ar, .int .i64 c.fr.de, .int .i64 c.fr.li, .int .i64 c.to_.of_, .int .i64 c.to_.ar, .int .i64 c.to_.de, .int .i64 c.to_.li, .int .i64 (c.tr : Int), .int .i64 (c.sp : Int), v]
/-- A container in memory. -/
structure Cel where
  b : Nat
  A : Option Addr
  c : Nat
  con : Con
def celV (x : Cel) : Value := .slice x.A x.con.ins.length x.c
/-- The containers, in a map of the call's own. -/
structure Cons (w0 W : World) (m : Nat) (F : ByteArray → Option Cel) : Prop where
  map : MapTo sv sEq W m (fun s => (F s).map fun x => .pointer (some ⟨x.b, 0, none⟩))
  lo : ∀ s x, F s = some x → w0.heap.size ≤ x.b
  blk : ∀ s x, F s = some x → Blk W x.b 195 (conCells x.con (celV x))
  own : ∀ s x, F s = some x → W.ownsRow w0.heap.size 3 1 (celV x) x.con.ins.length (recCells intR x.con.ins)
  two : ∀ s s' x x', F s = some x → F s' = some x' → s ≠ s' → x.b ≠ x'.b ∧ ∀ k, (celV x).ownBlock = some k → (celV x').ownBlock ≠ some k
  keep : Keeps w0 W
  new : w0.heap.size ≤ m
def updC (F : ByteArray → Option Cel) (s : ByteArray) (x : Cel) : ByteArray → Option Cel := fun q => if q = s then some x else F q
theorem updC_at (F : ByteArray → Option Cel) (s : ByteArray) (x : Cel) : updC F s x s = some x := by simp [updC]
theorem updC_ne (F : ByteArray → Option Cel) {s q : ByteArray} (x : Cel) (h : q ≠ s) : updC F s x q = F q := by simp [updC, h]
section
variable {w0 W : World} {m : Nat} {F : ByteArray → Option Cel}
theorem Cons.keepK {W' : World} (h : Cons w0 W m F) (hk : Keeps W W') : Cons w0 W' m F :=
  ⟨h.map.keep hk, h.lo, fun s x e => (h.blk s x e).below hk (h.blk s x e).lt, fun s x e => own_keeps (h.own s x e) hk, h.two, h.keep.trans hk, h.new⟩
theorem Cons.made {w0 W : World} (h : Keeps w0 W) : Cons w0 (W.alloc (.map #[] 0)) W.heap.size (fun _ => none) :=
  ⟨MapTo.made W, fun s x e => (by cases e), fun s x e => (by cases e), fun s x e => (by cases e), fun s s' x x' e => (by cases e), h.alloc _, h.size⟩
theorem Cons.look (h : Cons w0 W m F) (s : ByteArray) : (Instr.lookup 188 (.map (some m)) (.string s) true).run Tryz.prog W = .ok (.tuple #[((F s).map fun x => Value.pointer (some ⟨x.b, 0, none⟩)).getD (.pointer none), .bool (F s).isSome]) W := by
  have := MapTo.look (strKeys Tryz.underlying9) Tryz.underlying188 true h.map (.pointer none) (by kernel_rfl) s
  rw [this]
  cases F s <;> rfl
theorem Cons.look1 (h : Cons w0 W m F) (s : ByteArray) {x : Cel} (e : F s = some x) : (Instr.lookup 188 (.map (some m)) (.string s) false).run Tryz.prog W = .ok (.pointer (some ⟨x.b, 0, none⟩)) W := by
  have := MapTo.look (strKeys Tryz.underlying9) Tryz.underlying188 false h.map (.pointer none) (by kernel_rfl) s
  rw [this, e]
  rfl
/-- What is not at a block of the containers passes it by. -/
theorem Cons.own_far (h : Cons w0 W m F) {W' : World} {row : Option Nat} (hg : W.grownBy W' row) {s : ByteArray} {x : Cel} (e : F s = some x) (hb : row ≠ some x.b) (ho : ∀ k, (celV x).ownBlock = some k → row ≠ some k) :
    Blk W' x.b 195 (conCells x.con (celV x)) ∧ W'.ownsRow w0.heap.size 3 1 (celV x) x.con.ins.length (recCells intR x.con.ins) := by
  refine ⟨(h.blk s x e).grown hg (fun e2 => hb e2.symm), (h.own s x e).kept hg ?_⟩
  cases hv : (celV x).ownBlock with
  | none => exact .inl rfl
  | some k => exact .inr (fun e2 => ho k hv e2.symm)
/-- A new container. -/
theorem Cons.add (h : Cons w0 W m F) {s : ByteArray} (hs : F s = none) (c : Con) (hc : c.ins = []) {W1 : World} (hk : Keeps W W1) (hb : Blk W1 W.heap.size 195 (conCells c (.slice none 0 0))) :
    ∃ W2, (Instr.mapUpdate 188 (.map (some m)) (.string s) (.pointer (some ⟨W.heap.size, 0, none⟩))).run Tryz.prog W1 = .ok () W2 ∧ Cons w0 W2 m (updC F s ⟨W.heap.size, none, 0, c⟩) ∧ W1.grownBy W2 (some m) := by
  have h1 := h.keepK hk
  obtain ⟨W2, hp, hm, hg⟩ := MapTo.put (strKeys Tryz.underlying9) ba_beq Tryz.underlying188 h1.map s (.pointer (some ⟨W.heap.size, 0, none⟩))
  refine ⟨W2, hp, ?_, hg⟩
  have hfar : ∀ q x, F q = some x → Blk W2 x.b 195 (conCells x.con (celV x)) ∧ W2.ownsRow w0.heap.size 3 1 (celV x) x.con.ins.length (recCells intR x.con.ins) := fun q x e =>
    h1.own_far hg e (fun e2 => blk_not_map (h1.blk q x e) (by cases e2; exact h1.map.at_)) (fun k hv e2 => own_not_map (h1.own q x e) hv (by cases e2; exact h1.map.at_))
  have hnewb : Blk W2 W.heap.size 195 (conCells c (celV ⟨W.heap.size, none, 0, c⟩)) := by
    have : celV ⟨W.heap.size, none, 0, c⟩ = .slice none 0 0 := by simp [celV, hc]
    rw [this]
    exact hb.grown hg (fun e2 => blk_not_map hb (by cases e2; exact h1.map.at_))
  refine ⟨hm.congr (fun q => ?_), fun q x e => ?_, fun q x e => ?_, fun q x e => ?_, fun q q' x x' e e' hne => ?_, grown_keeps h1.keep hg (fun k e => by cases e; exact h.new), h.new⟩
  · unfold updC
    by_cases eq : q = s <;> simp [eq]
  · unfold updC at e
    split at e
    · cases e; exact h.keep.size
    · exact h.lo q x e
  · unfold updC at e
    split at e
    · cases e; exact hnewb
    · exact (hfar q x e).1
  · unfold updC at e
    split at e
    · cases e
      simp only [celV, hc]
      exact World.ownsRow_nil _ _ _ _
    · exact (hfar q x e).2
  · unfold updC at e e'
    split at e
    · rename_i hq
      cases e
      split at e'
      · rename_i hq'; exact absurd (hq.trans hq'.symm) hne
      · refine ⟨fun e3 => ?_, fun k hv => ?_⟩
        · have := (h.blk q' x' e').lt
          simp only at e3
          omega
        · simp [celV, hc, Value.ownBlock] at hv
    · split at e'
      · cases e'
        refine ⟨fun e3 => ?_, fun k hv hv' => ?_⟩
        · have := (h.blk q x e).lt
          simp only at e3
          omega
        · simp [celV, hc, Value.ownBlock] at hv'
      · exact h.two q q' x x' e e' hne
/-- One more inside: behind the append and the store. -/
theorem Cons.push (h : Cons w0 W m F) {s : ByteArray} {x : Cel} (hs : F s = some x) {A' : Option Addr} {n' c' : Nat} {zs : List Int} {W1 : World} (hn : n' = zs.length)
    (ho : W1.ownsRow w0.heap.size 3 1 (.slice A' n' c') zs.length (recCells intR zs)) (hg : W.grownBy W1 (celV x).ownBlock)
    (hl : (Value.slice A' n' c').ownBlock = (celV x).ownBlock ∨ (Value.slice A' n' c').ownBlock = some W.heap.size) :
    Cons w0 (W1.setCell ⟨x.b, 10, none⟩ (.slice A' n' c')) m (updC F s ⟨x.b, A', c', { x.con with ins := zs }⟩) ∧ Blk W1 x.b 195 (conCells x.con (celV x)) := by
  subst hn
  have hox := h.own s x hs
  have hbx := h.blk s x hs
  have hsb : ∀ k, (celV x).ownBlock = some k → w0.heap.size ≤ k ∧ k < W.heap.size := fun k hk => own_lt hox hk
  have hbx1 : Blk W1 x.b 195 (conCells x.con (celV x)) := hbx.grown hg (fun e => own_blk_ne hox hbx (by decide) e.symm)
  have hb2 : Blk (W1.setCell ⟨x.b, 10, none⟩ (.slice A' zs.length c')) x.b 195 (conCells { x.con with ins := zs } (.slice A' zs.length c')) := hbx1.set_ 10 _
  have hgs : W1.grownBy (W1.setCell ⟨x.b, 10, none⟩ (.slice A' zs.length c')) (some x.b) := grownBy_cell _ _ _
  have k1 : Keeps w0 W1 := grown_keeps h.keep hg (fun k e => (hsb k e).1)
  have hfar : ∀ q y, F q = some y → q ≠ s → Blk (W1.setCell ⟨x.b, 10, none⟩ (.slice A' zs.length c')) y.b 195 (conCells y.con (celV y)) ∧ (W1.setCell ⟨x.b, 10, none⟩ (.slice A' zs.length c')).ownsRow w0.heap.size 3 1 (celV y) y.con.ins.length (recCells intR y.con.ins) := fun q y e hne => by
    obtain ⟨p1, p2⟩ := h.own_far hg e (fun e2 => own_blk_ne hox (h.blk q y e) (by decide) e2) (fun k hv e2 => (h.two s q x y hs e (fun e3 => hne e3.symm)).2 k e2 hv)
    refine ⟨p1.grown hgs (fun e2 => (h.two s q x y hs e (fun e3 => hne e3.symm)).1 (Option.some.inj e2).symm), p2.kept hgs (.inr ?_)⟩
    exact fun e2 => own_blk_ne p2 hbx1 (by decide) e2
  refine ⟨⟨?_, fun q y e => ?_, fun q y e => ?_, fun q y e => ?_, fun q q' y y' e e' hne => ?_, grown_keeps k1 hgs (fun k e => by cases e; exact h.lo s x hs), h.new⟩, hbx1⟩
  · have m1 := (h.map.grown hg (fun e => own_not_map hox e h.map.at_)).grown hgs (fun e => blk_not_map hbx (by cases e; exact h.map.at_))
    refine m1.congr (fun q => ?_)
    unfold updC
    by_cases eq : q = s
    · subst eq; simp [hs]
    · simp [eq]
  · unfold updC at e
    split at e
    · cases e; exact h.lo s x hs
    · exact h.lo q y e
  · unfold updC at e
    split at e
    · cases e; exact hb2
    · rename_i hq; exact (hfar q y e hq).1
  · unfold updC at e
    split at e
    · cases e
      exact ho.kept hgs (by
        cases hv : (celV ⟨x.b, A', c', { x.con with ins := zs }⟩).ownBlock with
        | none => exact .inl hv
        | some k => exact .inr (fun e2 => own_blk_ne ho hbx1 (by decide) e2))
    · rename_i hq; exact (hfar q y e hq).2
  · have hnew : ∀ q y, F q = some y → q ≠ s → ∀ k, (Value.slice A' zs.length c').ownBlock = some k → (celV y).ownBlock ≠ some k := fun q y e hne k hk hk' => by
      rcases hl with hl | hl
      · exact (h.two s q x y hs e (fun e3 => hne e3.symm)).2 k (hl ▸ hk) hk'
      · rw [hl] at hk
        cases hk
        have := (own_lt (h.own q y e) hk').2
        omega
    unfold updC at e e'
    split at e
    · rename_i hq
      cases e
      split at e'
      · rename_i hq'; exact absurd (hq.trans hq'.symm) hne
      · rename_i hq'
        exact ⟨(h.two s q' x y' hs e' (fun e3 => hq' e3.symm)).1, hnew q' y' e' hq'⟩
    · rename_i hq
      split at e'
      · cases e'
        exact ⟨(h.two q s y x e hs hq).1, fun k hv hv' => hnew q y e hq k hv' hv⟩
      · exact h.two q q' y y' e e' hne
end
end
end Go.Proofs.YthkmpegpmpdhaaaGreatDoor
