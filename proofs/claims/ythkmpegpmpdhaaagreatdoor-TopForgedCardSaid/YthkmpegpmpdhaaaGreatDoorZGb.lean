/- Part of the proof of TopOwnItem. Conditions: as stated in each theorem. -/
import Derived.Test.YthkmpegpmpdhaaaGreatDoorZGa
import Derived.Test.YthkmpegpmpdhaaaGreatDoorZFa
import Derived.Test.YthkmpegpmpdhaaaGreatDoorProg
import Derived.WalkMore
import Derived.Maps.OwnIn
import Derived.Deep.LoopGhost
import Derived.RangeFuncNested
import Derived.RangeFuncCalls
import Derived.RangeFuncLeaves
import Derived.RangeFuncWrites
import Derived.Shelf.Abstract
import Derived.Shelf.RegionOpen
import Derived.OwnWalkIn
import Derived.TacticsInMore
import Derived.LoopNIn
import Derived.LoopIn
import Derived.RangeFuncBound
import Derived.WalkKit
import Derived.WalkSpells
import Derived.WalkLawsBesides
import Derived.Laws.EntriesVeiled
import Derived.ProofKit
import Derived.OpenShut
import Derived.Lib.Hide
import Derived.BigQuiet
import Derived.Deep.QuietTactic
import Derived.Deep.CutRange
import Derived.StillTailTactics
import Derived.Lib.SliceRun
import Derived.RangeFuncRecord
import Derived.Carry
import Derived.ChangeKeysEq
import Derived.Below
import Derived.Laws.OwnMore
import Derived.Deep.AppendLies
import Derived.Deep.Draws
import Derived.Laws.Rows
import Derived.Maps.AppendAt
import Derived.RegionTactic
import Derived.OwnWalk
import Derived.Deep.RegionHeld3
namespace Go.Proofs.YthkmpegpmpdhaaaGreatDoor
open Go.Shelf Go.ChangeShapes Go.WideShapes Go.ChangeAt Go.RowKit
set_option linter.unusedSimpArgs false
set_option linter.unusedVariables false
def okB (s : Stp) : Bool := !(decide (s.of_ < 0) || (decide (1000000000 < s.ar) || decide (1000000000 < s.de)))
def lastB (s : Stp) : Bool := decide (s.de = -1) && decide (s.li = -1)
def midB (s t : Stp) : Bool := !(decide (s.de < s.ar) || (decide (t.ar < s.de) || decide (s.li < 0)))
/-- Whether the stops from one on are as they have to be. -/
def stopsGo : List Stp → Bool
  | [] => true
  | [s] => okB s && lastB s
  | s :: t :: r => okB s && (midB s t && stopsGo (t :: r))
def startB (st : List Stp) : Bool := match st with | [] => false | s :: _ => decide (0 ≤ s.ar)
def stopsF (n s : Nat) (st : List Stp) : Bool := decide (n = s + 1) && (startB st && stopsGo st)
theorem startB_at {st : List Stp} {x : Stp} (h : st[0]? = some x) : startB st = decide (0 ≤ x.ar) := by
  cases st with
  | nil => simp at h
  | cons a t => simp at h; subst h; rfl
theorem stopsGo_bad {l : List Stp} {x : Stp} (h : okB x = false) : stopsGo (x :: l) = false := by
  cases l <;> simp [stopsGo, h]
theorem stopsGo_last {x : Stp} (h : okB x = true) : stopsGo [x] = lastB x := by simp [stopsGo, h]
theorem stopsGo_mid {x y : Stp} {l : List Stp} (h : okB x = true) : stopsGo (x :: y :: l) = (midB x y && stopsGo (y :: l)) := by simp [stopsGo, h]
set_option maxRecDepth 100000 in
set_option maxHeartbeats 8000000 in
theorem stops86 (t : Trk) (w : World) (h : RecIn stR w w.heap.size t.stA t.st) (hst : t.st.length ≤ 1000000) (hse : t.se.length ≤ 1000000) :
    Calls Tryz.prog 86 #[tkA t] w (BoolPost (stopsF t.st.length t.se.length t.st) w) := by
  have k1 := (Keeps.refl w).alloc (.cells #[.string t.pl, .int .i64 t.pf, .int .i64 t.pt, .int .i64 t.pc, .int .i64 t.pa, .slice t.stA t.st.length t.stc, .bool t.lost, .slice t.siA t.si.length t.sic, .slice t.lbA t.lb.length t.lbc, .slice t.seA t.se.length t.sec] 64)
  have HB := Blk.new w 64 #[.string t.pl, .int .i64 t.pf, .int .i64 t.pt, .int .i64 t.pc, .int .i64 t.pa, .slice t.stA t.st.length t.stc, .bool t.lost, .slice t.siA t.si.length t.sic, .slice t.lbA t.lb.length t.lbc, .slice t.seA t.se.length t.sec]
  obtain ⟨pl, pf, pt, pc, pa, st, stA, stc, lost, si, siA, sic, lb, lbA, lbc, se, seA, sec⟩ := t
  simp only at h hst hse k1 HB ⊢
  obtain ⟨n, hn⟩ : ∃ n, st.length = n := ⟨_, rfl⟩
  have HN := Lib.hid hn
  obtain ⟨r, hr⟩ : ∃ r, stopsF st.length se.length st = r := ⟨_, rfl⟩
  rw [hr]
  change Calls Tryz.prog 86 #[.agg #[.string pl, .int .i64 pf, .int .i64 pt, .int .i64 pc, .int .i64 pa, .slice stA st.length stc, .bool lost, .slice siA si.length sic, .slice lbA lb.length lbc, .slice seA se.length sec]] w _
  rw [hn] at hr hst k1 HB ⊢
  generalize se.length = s at *
  generalize si.length = sin at *
  generalize lb.length = lbn at *
  have HR := Lib.hid hr
  have HD := Lib.hid (h.keep k1)
  have K1 := Lib.hid k1
  have HBX := Lib.hid HB
  generalize hW : w.alloc (.cells #[.string pl, .int .i64 pf, .int .i64 pt, .int .i64 pc, .int .i64 pa, .slice stA n stc, .bool lost, .slice siA sin sic, .slice lbA lbn lbc, .slice seA s sec] 64) = W1 at *
  have SOF := Lib.hid (show ∀ X, Keeps W1 X → X.cell? ⟨w.heap.size, 5, none⟩ = some (.slice stA n stc) ∧ X.cell? ⟨w.heap.size, 9, none⟩ = some (.slice seA s sec) from fun X hX => ⟨cell_keep (HB.cell 5) hX, cell_keep (HB.cell 9) hX⟩)
  subst hW
  clear h hr hn k1 HB HBX
  by_cases hn0 : n = 0
  · subst hn0
    have HF := Lib.hid (show r = false by rw [← HR.out]; simp [stopsF])
    go_enter Tryz.func86, Tryz.ntmps86
    go_wp2_with fail
    go_ret
    exact bool_post HF.out K1.out
  have n0 : ((n : Int) == 0) = false := by simp; omega
  have nw : IntKind.i64.wrap ((n : Int) - 1) = (n : Int) - 1 := wrap_in (by omega) (by omega)
  by_cases hns : n = s + 1
  case neg =>
    have HF := Lib.hid (show r = false by rw [← HR.out]; simp [stopsF, hns])
    have ns : ((s : Int) != (n : Int) - 1) = true := by simp; omega
    have ns2 : ¬ (s : Int) = (n : Int) - 1 := by omega
    go_enter Tryz.func86, Tryz.ntmps86
    go_wp2_with fail
    go_ret
    exact bool_post HF.out K1.out
  have ns : ((s : Int) != (n : Int) - 1) = false := by simp; omega
  have ns2 : (s : Int) = (n : Int) - 1 := by omega
  have HNS := Lib.hid hns
  clear hns
  obtain ⟨x0, hx0⟩ : ∃ x, st[0]? = some x := ⟨_, List.getElem?_eq_getElem (by rw [HN.out]; omega)⟩
  have HST := Lib.hid (startB_at hx0)
  obtain ⟨b, o, e, hb, c0, c1, c2, c3⟩ := HD.out.stp hx0
  obtain ⟨of0, ar0, de0, li0⟩ := x0
  simp only [Nat.zero_mul, Nat.add_zero] at c0 c1 c2 c3
  by_cases hs0 : ar0 < 0
  · have HF := Lib.hid (show r = false by rw [← HR.out]; simp only [stopsF]; rw [HST.out, decide_eq_false (by omega : ¬ 0 ≤ ar0)]; simp)
    have npos : (0 : Int) < (n : Int) := by omega
    subst e
    clear hx0
    go_enter Tryz.func86, Tryz.ntmps86
    go_wp2_with fail
    go_ret
    exact bool_post HF.out K1.out
  have d0 : decide (ar0 < 0) = false := by simpa using hs0
  have HGO := Lib.hid (show stopsGo st = r by rw [← HR.out]; simp only [stopsF]; rw [HST.out, decide_eq_true (by omega : 0 ≤ ar0), decide_eq_true HNS.out]; simp)
  have npos : (0 : Int) < (n : Int) := by omega
  subst e
  clear hx0
  go_enter Tryz.func86, Tryz.ntmps86
  go_wp2_with fail
  go_loopw [30, 3, 4] (fun i a z wx => ∃ k : Nat, k ≤ n ∧ i = .int .i64 (k : Int) ∧ Keeps (w.alloc (.cells #[.string pl, .int .i64 pf, .int .i64 pt, .int .i64 pc, .int .i64 pa, .slice (some ⟨b, o, none⟩) n stc, .bool lost, .slice siA sin sic, .slice lbA lbn lbc, .slice seA s sec] 64)) wx ∧ stopsGo (st.drop k) = r) (fun i _ _ _ => n - (intOf i).toNat)
  case atStart => exact ⟨0, by omega, rfl, Keeps.refl _, by simpa using HGO.out⟩
  case round =>
    clear c0 c1 c2 c3 d0 hs0
    obtain ⟨k, hk, rfl, hK, hgo⟩ := hrel
    have HK := Lib.hid hK
    have HKW := Lib.hid (K1.out.trans hK)
    by_cases hkn : k < n
    · obtain ⟨x, hx⟩ : ∃ x, st[k]? = some x := ⟨_, List.getElem?_eq_getElem (by have := HN.out; omega)⟩
      rw [drop_cons hx] at hgo
      obtain ⟨b', o', e, hb2, c0, c1, c2, c3⟩ := (HD.out.keep hK).stp hx
      injection e with e
      injection e with e1 e2
      subst e1 e2
      obtain ⟨f5, f9⟩ := SOF.out _ (hK.alloc (.cells #[.int .i64 x.of_, .int .i64 x.ar, .int .i64 x.de, .int .i64 x.li] 192))
      have kn : (k : Int) < (n : Int) := by omega
      have k0 : (0 : Int) ≤ (k : Int) := by omega
      have kw : IntKind.i64.wrap ((k : Int) + 1) = (k : Int) + 1 := wrap_in (by omega) (by omega)
      have KX := Lib.hid (HKW.out.alloc (.cells #[.int .i64 x.of_, .int .i64 x.ar, .int .i64 x.de, .int .i64 x.li] 192))
      cases hok : okB x
      · rw [stopsGo_bad hok] at hgo
        have HF := Lib.hid (show r = false from hgo.symm)
        obtain ⟨of_, ar, de, li⟩ := x
        simp only [okB, Bool.not_eq_false', Bool.or_eq_true, decide_eq_true_eq] at hok
        simp only at c0 c1 c2 c3 f5 f9
        clear hx hgo hK
        by_cases h0 : of_ < 0
        · go_wp2_with fail
          go_ret
          exact bool_post HF.out KX.out
        · have h0d : decide (of_ < 0) = false := by simpa using h0
          by_cases h1 : 1000000000 < ar
          · go_wp2_with fail
            go_ret
            exact bool_post HF.out KX.out
          · have h1d : decide (1000000000 < ar) = false := by simpa using h1
            have h2 : 1000000000 < de := by omega
            go_wp2_with fail
            go_ret
            exact bool_post HF.out KX.out
      · have hok2 := hok
        simp only [okB, Bool.not_eq_true', Bool.or_eq_false_iff, decide_eq_false_iff_not] at hok2
        obtain ⟨h0, h1, h2⟩ := hok2
        have h0d : decide (x.of_ < 0) = false := by simpa using h0
        have h1d : decide (1000000000 < x.ar) = false := by simpa using h1
        have h2d : decide (1000000000 < x.de) = false := by simpa using h2
        by_cases hl : k + 1 = n
        · have e : st.drop (k + 1) = [] := List.drop_eq_nil_of_le (by have := HN.out; omega)
          rw [e, stopsGo_last hok] at hgo
          have HF := Lib.hid hgo
          have lw2 : ((k : Int) == (n : Int) - 1) = true := by simp; omega
          have HLK := Lib.hid hl
          clear hl
          obtain ⟨of_, ar, de, li⟩ := x
          simp only at c0 c1 c2 c3 f5 f9 h0 h1 h2 h0d h1d h2d
          replace HF := Lib.hid (show (decide (de = -1) && decide (li = -1)) = r from HF.out)
          clear hx hgo hK hok e
          by_cases e1 : de = -1
          · by_cases e2 : li = -1
            · have HF2 := Lib.hid (show r = true by rw [← HF.out]; simp [e1, e2])
              subst e1 e2
              go_wp2_with fail
              go_ret
              exact bool_post HF2.out KX.out
            · have HF2 := Lib.hid (show r = false by rw [← HF.out]; simp [e2])
              have e2d : (li == -1) = false := by simpa using e2
              subst e1
              go_wp2_with fail
              go_ret
              exact bool_post HF2.out KX.out
          · have HF2 := Lib.hid (show r = false by rw [← HF.out]; simp [e1])
            have e1d : (de == -1) = false := by simpa using e1
            go_wp2_with fail
            go_ret
            exact bool_post HF2.out KX.out
        · obtain ⟨y, hy⟩ : ∃ y, st[k + 1]? = some y := ⟨_, List.getElem?_eq_getElem (by have := HN.out; omega)⟩
          have HGY := Lib.hid (show stopsGo (y :: st.drop (k + 1 + 1)) = stopsGo (st.drop (k + 1)) by rw [drop_cons hy])
          rw [drop_cons hy, stopsGo_mid hok] at hgo
          obtain ⟨b', o', e, hb3, g0, g1, g2, g3⟩ := (HD.out.keep (hK.alloc (.cells #[.int .i64 x.of_, .int .i64 x.ar, .int .i64 x.de, .int .i64 x.li] 192))).stp hy
          injection e with e
          injection e with e1 e2
          subst e1 e2
          clear g0 g2 g3
          have HF := Lib.hid hgo
          have lw : ¬ (k : Int) = (n : Int) - 1 := by omega
          have lw2 : ((k : Int) == (n : Int) - 1) = false := by simp; omega
          have k10 : (0 : Int) ≤ (k : Int) + 1 := by omega
          have k1n : (k : Int) + 1 < (n : Int) := by omega
          have k1n2 : k + 1 < n := by omega
          obtain ⟨of_, ar, de, li⟩ := x
          obtain ⟨yo, ya, yd, yl⟩ := y
          simp only at c0 c1 c2 c3 f5 f9 h0 h1 h2 h0d h1d h2d g1
          replace HF := Lib.hid (show (!(decide (de < ar) || (decide (ya < de) || decide (li < 0))) && stopsGo (⟨yo, ya, yd, yl⟩ :: st.drop (k + 1 + 1))) = r from HF.out)
          clear hx hgo hK hok hy
          by_cases e1 : de < ar
          · have HF2 := Lib.hid (show r = false by rw [← HF.out]; simp [e1])
            have e1d : decide (de < ar) = true := by simpa using e1
            go_upto_region 10 with fail
            go_quiet (fail)
            go_wp2_with fail
            go_ret
            exact bool_post HF2.out (KX.out.drewN _)
          · have e1d : decide (de < ar) = false := by simpa using e1
            by_cases e2 : ya < de
            · have HF2 := Lib.hid (show r = false by rw [← HF.out]; simp [e2])
              have e2d : decide (ya < de) = true := by simpa using e2
              go_upto_region 10 with fail
              go_quiet (fail)
              go_wp2_with fail
              go_ret
              exact bool_post HF2.out (KX.out.drewN _)
            · have e2d : decide (ya < de) = false := by simpa using e2
              by_cases e3 : li < 0
              · have HF2 := Lib.hid (show r = false by rw [← HF.out]; simp [e3])
                have e3d : decide (li < 0) = true := by simpa using e3
                go_upto_region 10 with fail
                go_quiet (fail)
                go_wp2_with fail
                go_ret
                exact bool_post HF2.out (KX.out.drewN _)
              · have e3d : decide (li < 0) = false := by simpa using e3
                have HF2 := Lib.hid (show stopsGo (st.drop (k + 1)) = r by rw [← HGY.out, ← HF.out, e1d, e2d, e3d]; simp)
                have KY := Lib.hid (HK.out.alloc (.cells #[.int .i64 of_, .int .i64 ar, .int .i64 de, .int .i64 li] 192))
                go_upto_region 10 with fail
                go_quiet (fail)
                go_wp2_with fail
                go_roundw
                case rel => exact ⟨k + 1, by omega, by go_num, KY.out.drewN _, HF2.out⟩
                case measure => simp [intOf]; omega
    · have e : st.drop k = [] := List.drop_eq_nil_of_le (by have := HN.out; omega)
      rw [e] at hgo
      have HF := Lib.hid (show r = true from hgo.symm)
      have hkn' : ¬ ((k : Int) < (n : Int)) := by omega
      clear hgo e hK
      go_wp2_with fail
      go_ret
      exact bool_post HF.out HKW.out
end Go.Proofs.YthkmpegpmpdhaaaGreatDoor
