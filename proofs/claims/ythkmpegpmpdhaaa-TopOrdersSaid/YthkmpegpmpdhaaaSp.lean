/- Part of the proofs of TopMoney and TopOrders. Conditions: as stated in each theorem. -/
import Derived.Test.YthkmpegpmpdhaaaSo
import Derived.Deep.CutRange
import Derived.StillTailTactics
import Derived.Lib.SliceRun
import Derived.RangeFuncRecord
import Derived.Carry
import Derived.ChangeKeysEq
import Derived.Shelf.SlSortCmp.Insertion1
import Derived.Shelf.Lay
import Derived.Ground.SlsfProg
import Derived.Sort.LotA
import Derived.Test.YthkmpegpmpdhaaaRows
import Derived.WalkKit
import Derived.WalkSpells
import Derived.WalkLawsBesides
import Derived.Laws.EntriesVeiled
import Derived.ProofKit
import Derived.OpenShut
import Derived.Lib.Hide
import Derived.BigQuiet
import Derived.Deep.QuietTactic
import Derived.Below
import Derived.Laws.OwnMore
import Derived.Deep.AppendLies
import Derived.Deep.Draws
import Derived.Laws.Rows
import Derived.Maps.AppendAt
import Derived.RegionTactic
import Derived.OwnWalk
import Derived.Deep.RegionHeld3
namespace Go.Proofs.Ythkmpegpmpdhaaa
open Go.Shelf Go.Sort Go.ChangeShapes Go.WideShapes Go.ChangeAt Go.RowKit
set_option linter.unusedSimpArgs false
set_option linter.unusedVariables false
abbrev boR : RowTy Bool := { T := 4, S := 83, k := 1, by' := 1, enc := fun b => [.bool b] }
theorem boOk : RowOk Try.prog boR := ⟨fun _ => rfl, fun x u hu => by simp at hu; subst hu; rfl, Try.underlying83, info_of (z := .bool false) (by kernel_rfl) rfl, by decide, by decide⟩
theorem RecIn.bo {l : List Bool} {w : World} {B : Nat} {A : Option Addr} (h : RecIn boR w B A l) {j : Nat} {x : Bool} (hj : l[j]? = some x) : ∃ b off, A = some ⟨b, off, none⟩ ∧ b < B ∧ w.cell? ⟨b, off + j, none⟩ = some (.bool x) := by
  obtain ⟨b, off, e, hb, hc⟩ := h j x hj
  refine ⟨b, off, e, hb, ?_⟩
  have := hc 0 (.bool x) rfl
  simpa using this
theorem RecIn.ev {l : List EvC} {w : World} {B : Nat} {A : Option Addr} (h : RecIn evR w B A l) {j : Nat} {x : EvC} (hj : l[j]? = some x) : ∃ b off, A = some ⟨b, off, none⟩ ∧ b < B ∧ w.cell? ⟨b, off + j * 4, none⟩ = some (.int .i64 x.1.o) ∧ w.cell? ⟨b, off + j * 4 + 1, none⟩ = some (.int .i64 x.1.lo) ∧ w.cell? ⟨b, off + j * 4 + 2, none⟩ = some (.int .i64 x.1.hi) ∧ w.cell? ⟨b, off + j * 4 + 3, none⟩ = some (hdV x.2) := by
  obtain ⟨b, off, e, hb, hc⟩ := h j x hj
  exact ⟨b, off, e, hb, hc 0 _ rfl, hc 1 _ rfl, hc 2 _ rfl, hc 3 _ rfl⟩
theorem ins_nil (w : World) : Calls Try.prog 68 #[.slice none 0 0, .int .i64 0, .int .i64 0, .func (.func 58) #[] #[]] w fun e w' => e = .returned (.tuple #[]) ∧ w' = w := by
  go_enter Try.func68, Try.ntmps68
  go_wp2_with fail
  go_loopw [8] (fun a wr => a = .int .i64 1 ∧ wr = w) (fun _ _ => 0)
  case atStart => exact ⟨rfl, rfl⟩
  case round =>
    obtain ⟨rfl, rfl⟩ := hrel
    go_wp2_with fail
    go_end0
    exact ⟨rfl, rfl⟩
theorem stable_nil (w : World) : Calls Try.prog 64 #[.slice none 0 0, .int .i64 0, .func (.func 58) #[] #[]] w fun e w' => e = .returned (.tuple #[]) ∧ w' = w := by
  go_enter Try.func64, Try.ntmps64
  go_wp2_with fail
  go_loopw [7, 8] (fun a b wr => a = .int .i64 0 ∧ b = .int .i64 20 ∧ wr = w) (fun _ _ _ => 0)
  case atStart => exact ⟨rfl, rfl, rfl⟩
  case round =>
    obtain ⟨rfl, rfl, rfl⟩ := hrel
    go_wp2_with (go_at_call 68; (with_reducible refine (ins_nil _).mono ?_); rintro e w2 ⟨rfl, rfl⟩)
    go_loopw [6] (fun a wq => a = .int .i64 20 ∧ wq = w2) (fun _ _ => 0)
    case atStart => exact ⟨rfl, rfl⟩
    case round =>
      obtain ⟨rfl, rfl⟩ := hrel
      go_wp2_with fail
      go_end0
      exact ⟨rfl, rfl⟩
theorem sortf_nil (w : World) : Calls Try.prog 57 #[.slice none 0 0, .func (.func 58) #[] #[]] w fun e w' => e = .returned (.tuple #[]) ∧ w' = w := by
  go_enter Try.func57, Try.ntmps57
  go_wp2_with (go_at_call 64; ((with_reducible refine (stable_nil _).mono ?_); rintro e w2 ⟨rfl, rfl⟩))
  go_end0
  exact ⟨rfl, rfl⟩
def unitsC : List EvC → List UnC := fun l => l.zipIdx.map fun p => (p.2, p.1.1, p.1.2)
theorem unitsC_len (l : List EvC) : (unitsC l).length = l.length := by simp [unitsC]
theorem unitsC_at {l : List EvC} {k : Nat} {x : EvC} (h : l[k]? = some x) : (unitsC l)[k]? = some (k, x.1, x.2) := by simp [unitsC, h]
theorem unitsC_next {l : List EvC} {k : Nat} {x : EvC} (h : l[k]? = some x) : unitsC (l.take (k + 1)) = unitsC (l.take k) ++ [(k, x.1, x.2)] := by
  have hk := (List.getElem?_eq_some_iff.1 h).1
  unfold unitsC
  rw [List.take_add_one, h]
  simp [List.zipIdx_append, Nat.min_eq_left (Nat.le_of_lt hk)]
def winB (l : List UnC) : Bool := l.all fun u => decide (clampLo u.2.1 ≤ clampHi u.2.1)
/-- What split answers: the units, or none. -/
def SplitPost (us : List UnC) (w : World) (e : Ending) (w' : World) : Prop :=
  if winB us = true then ∃ A n c, e = .returned (.tuple #[.slice A n c, .bool true]) ∧ Hid (n = us.length) ∧ RecIn unR w' w'.heap.size A (sortU us) ∧ Keeps w w'
  else ∃ A n c, e = .returned (.tuple #[.slice A n c, .bool false]) ∧ Keeps w w'
theorem split_no {us : List UnC} {w w' : World} {A : Option Addr} {n c : Nat} (h : winB us = false) (hk : Keeps w w') : SplitPost us w (.returned (.tuple #[.slice A n c, .bool false])) w' := by
  unfold SplitPost
  rw [h]
  exact ⟨A, n, c, rfl, hk⟩
theorem split_yes {us : List UnC} {w w' : World} {A : Option Addr} {n c : Nat} (h : winB us = true) (ho : OwnR unR w w' (.slice A n c) (sortU us)) : SplitPost us w (.returned (.tuple #[.slice A n c, .bool true])) w' := by
  unfold SplitPost
  rw [if_pos h]
  obtain ⟨h1, h2⟩ := ho.recs unOk
  exact ⟨A, n, c, rfl, Lib.hid (h2.trans (sortU_is us).2), h1, ho.2⟩
theorem win_bad {us : List UnC} {k : Nat} {u : UnC} (h : us[k]? = some u) (hb : ¬ clampLo u.2.1 ≤ clampHi u.2.1) : winB us = false := by
  unfold winB
  rw [List.all_eq_false]
  exact ⟨u, List.mem_of_getElem? h, by simpa using hb⟩
theorem win_take {us : List UnC} {k : Nat} {u : UnC} (h : us[k]? = some u) (h1 : winB (us.take k) = true) (hb : clampLo u.2.1 ≤ clampHi u.2.1) : winB (us.take (k + 1)) = true := by
  unfold winB at *
  rw [List.take_add_one, h, List.all_append, h1]
  simpa using hb
set_option maxRecDepth 100000 in
set_option maxHeartbeats 4000000 in
theorem split_any (l : List EvC) (dA eA : Option Addr) (dn dc ec : Nat) (w : World) (he : RecIn evR w w.heap.size eA l) (n : Nat) (hln : Hid (n = l.length)) (hn : n ≤ 15) :
    Calls Try.prog 37 #[.slice dA dn dc, .slice eA n ec, .slice none 0 0] w (SplitPost (unitsC l) w) := by
  have HE := Lib.hid he
  have mw := meth_window
  clear he
  go_enter Try.func37, Try.ntmps37
  go_wp2_with (at_make; refine wpList_makeR boOk (w0 := w) rfl (.tmp 20) (.tmp 20) rfl false (.bool false) (by kernel_rfl) rfl n rfl rfl (by omega) (Keeps.refl _) ?_; intro w1 ho1 hg1; have O1 := Lib.hid ho1; clear ho1 hg1)
  go_loopw [8, 24] (fun v c wr => v = .slice none 0 0 ∧ c = .int .i64 0 ∧ wr = w1) (fun _ _ _ => 0)
  case atStart => exact ⟨rfl, rfl, rfl⟩
  case round =>
    obtain ⟨rfl, rfl, rfl⟩ := hrel
    go_wp2_with fail
    have U0 := Lib.hid ((OwnR.nil (R := unR) w).keep O1.out.2)
    go_loopw [8, 13, 80] (fun v _ c wq => ∃ (k : Nat) (A : Option Addr) (n1 cc : Nat), k ≤ n ∧ c = .int .i64 (k : Int) ∧ v = .slice A n1 cc ∧ OwnR unR w wq (.slice A n1 cc) (unitsC (l.take k)) ∧ OwnR boR w wq (.slice (some ⟨w.heap.size, 0, none⟩) n n) (List.replicate n false) ∧ (k = 0 → A = none ∧ n1 = 0 ∧ cc = 0)) (fun _ _ c _ => n - (intOf c).toNat)
    case atStart => exact ⟨0, none, 0, 0, by omega, rfl, rfl, by rw [List.take_zero]; exact U0.out, O1.out, fun _ => ⟨rfl, rfl, rfl⟩⟩
    case round =>
      clear U0 O1
      obtain ⟨k, A, n1, cc, hk, rfl, rfl, hU, hO, hz⟩ := hrel
      have OU := Lib.hid hU; have OB := Lib.hid hO; have HZ := Lib.hid hz
      clear hU hO hz
      by_cases hkn : k < n
      · have hki : (k : Int) < (n : Int) := by omega
        have hk0 : (0 : Int) ≤ (k : Int) := by omega
        have hkw : IntKind.i64.wrap ((k : Int) + 1) = (k : Int) + 1 := wrap_in (by omega) (by omega)
        have hkl : k < l.length := by rw [← hln.out]; exact hkn
        obtain ⟨⟨⟨o, lo, hi⟩, hA, hq, hc⟩, hx⟩ : ∃ x, l[k]? = some x := ⟨_, List.getElem?_eq_getElem hkl⟩
        have hK : Keeps w wr := OU.out.2
        obtain ⟨eb, eo, rfl, heb, e0, e1, e2, e3⟩ := (HE.out.keep hK).ev hx
        simp only [hdV] at e0 e1 e2 e3
        obtain ⟨hb0, hb1⟩ := OB.out.recs boOk
        obtain ⟨bb, bo, hbe, hbb, cb⟩ := hb0.bo (j := k) (x := false) (by simp [hkn])
        cases hbe
        rw [Nat.zero_add] at cb
        have hi2 : (0 : Int) ≤ (k : Int) ∧ (k : Int) < (n : Int) := ⟨hk0, hki⟩
        have kA : Keeps wr (wr.alloc (.cells #[.int .i64 o, .int .i64 lo, .int .i64 hi, Value.slice hA hq hc] 80)) := (Keeps.refl wr).alloc _
        have cb' := cell_keep cb kA
        have HNX := Lib.hid (unitsC_next hx)
        have UA := Lib.hid (OU.out.keep kA)
        have BA := Lib.hid (OB.out.keep kA)
        have BX := Lib.hid (Blk.new wr 80 #[.int .i64 o, .int .i64 lo, .int .i64 hi, Value.slice hA hq hc])
        clear hx hK hb0 hb1
        go_upto_region 16 with fail
        clear e0 e1 e2 e3 cb cb' OU OB
        generalize wr.alloc (.cells #[.int .i64 o, .int .i64 lo, .int .i64 hi, .slice hA hq hc] 80) = W3 at *
        have x0 : W3.cell? ⟨_, 0, none⟩ = some (.int .i64 o) := BX.out.cell 0
        have x1 : W3.cell? ⟨_, 1, none⟩ = some (.int .i64 lo) := BX.out.cell 1
        have x2 : W3.cell? ⟨_, 2, none⟩ = some (.int .i64 hi) := BX.out.cell 2
        have x3 : W3.cell? ⟨_, 3, none⟩ = some (.slice hA hq hc) := BX.out.cell 3
        have k4 : Keeps W3 (W3.alloc (.cells #[.iface 118 (.agg #[.int .i64 (k : Int), .int .i64 o, .int .i64 lo, .int .i64 hi, .slice hA hq hc])] 97)) := (Keeps.refl W3).alloc _
        have U4 := Lib.hid (UA.out.keep k4)
        have B4 := Lib.hid (BA.out.keep k4)
        have X4 := Lib.hid (RecIn.lit unOk W3 [((k, ⟨o, lo, hi⟩, hA, hq, hc) : UnC)] #[.iface 118 (.agg #[.int .i64 (k : Int), .int .i64 o, .int .i64 lo, .int .i64 hi, .slice hA hq hc])] rfl)
        have ONE := Lib.hid (show 1 = [((k, ⟨o, lo, hi⟩, hA, hq, hc) : UnC)].length from rfl)
        have L1 := Lib.hid (show (unitsC (l.take k)).length + [((k, ⟨o, lo, hi⟩, hA, hq, hc) : UnC)].length ≤ 1000000 by rw [unitsC_len]; simp; omega)
        clear k4 kA
        go_wp2_with (at_builtin; refine wpList_appR unOk rfl (.tmp 90) (.tmp 95) rfl (.slice A n1 cc) (unitsC (l.take k)) rfl U4.out _ _ _ [((k, ⟨o, lo, hi⟩, hA, hq, hc) : UnC)] rfl X4.out ONE L1 ?_; intro A5 n5 c5 w5 ho5 hg5; have U5 := Lib.hid ho5; have B5 := Lib.hid (B4.out.grown hg5 (.inr (fun e => by have h := own_apart B4.out U4.out (by decide) (by simp [Value.ownBlock]); exact h e)) (fun k' hk' => (own_lt U4.out.1 hk').1)); clear ho5 hg5)
        rw [← HNX.out] at U5
        go_roundw
        case rel => first | exact ⟨k + 1, _, _, _, by omega, by go_num, rfl, U5.out, B5.out, fun e => absurd e (by omega)⟩ | ((repeat apply Exists.intro); exact ⟨⟨k + 1, _, _, _, by omega, by go_num, rfl, U5.out, B5.out, fun e => absurd e (by omega)⟩, rfl⟩)
        case measure => simp [intOf]; omega
      · have hke : k = n := by omega
        subst hke
        have hta : l.take k = l := List.take_of_length_le (by rw [← hln.out]; exact Nat.le_refl _)
        rw [hta] at OU
        have LU := Lib.hid ((unitsC_len l).trans hln.out.symm)
        clear hta OB
        obtain ⟨us, hus⟩ : ∃ us, unitsC l = us := ⟨_, rfl⟩
        rw [hus] at OU LU
        have HUS := Lib.hid hus
        obtain ⟨hr1, hn1⟩ := OU.out.recs unOk
        have HN1 := Lib.hid hn1
        have hn1k : n1 = k := by rw [hn1, LU.out]
        subst hn1k
        clear hus hr1 hn1
        go_wp2_with fail
        go_loopw [16, 17, 18, 100] (fun _ _ _ c wq => ∃ q : Nat, q ≤ n1 ∧ c = .int .i64 (q : Int) ∧ OwnR unR w wq (.slice A n1 cc) us ∧ winB (us.take q) = true) (fun _ _ _ c _ => n1 - (intOf c).toNat)
        case atStart => exact ⟨0, by omega, rfl, OU.out, by simp [winB]⟩
        case round =>
          clear OU
          obtain ⟨q, hq, rfl, hU, hW⟩ := hrel
          have OU := Lib.hid hU; have HW := Lib.hid hW
          clear hU hW
          by_cases hqn : q < n1
          · have hqi : (q : Int) < (n1 : Int) := by omega
            have hq0 : (0 : Int) ≤ (q : Int) := by omega
            have hqw : IntKind.i64.wrap ((q : Int) + 1) = (q : Int) + 1 := wrap_in (by omega) (by omega)
            obtain ⟨u, hu⟩ : ∃ u, us[q]? = some u := ⟨_, List.getElem?_eq_getElem (by rw [LU.out]; exact hqn)⟩
            obtain ⟨ub, uo, rfl, hub, cu⟩ := (OU.out.recs unOk).1.un hu
            unfold unV at cu
            have HU := Lib.hid hu
            clear hu
            obtain ⟨lo, hlo⟩ : ∃ x, clampLo u.2.1 = x := ⟨_, rfl⟩
            obtain ⟨hi, hhi⟩ : ∃ x, clampHi u.2.1 = x := ⟨_, rfl⟩
            have HWD : Hid (∀ W, Calls Try.prog 97 #[unA u] W (PairPost lo hi W)) := Lib.hid (fun W => by rw [← hlo, ← hhi]; exact window_any u W)
            by_cases hc : lo ≤ hi
            · have tc : decide (hi < lo) = false := by simp; omega
              have HT := Lib.hid (win_take HU.out HW.out (by rw [hlo, hhi]; exact hc))
              clear hlo hhi hc
              go_wp2_with (go_at_call 97; (with_reducible refine (HWD.out _).mono ?_); rintro e w6 ⟨rfl, hk6⟩; have O6 := Lib.hid (OU.out.keep hk6); clear hk6)
              go_roundw
              case rel => first | exact ⟨q + 1, by omega, by go_num, O6.out, HT.out⟩ | ((repeat apply Exists.intro); exact ⟨⟨q + 1, by omega, by go_num, O6.out, HT.out⟩, rfl⟩)
              case measure => simp [intOf]; omega
            · have tc : decide (hi < lo) = true := by simp; omega
              have E := Lib.hid (win_bad HU.out (by rw [hlo, hhi]; exact hc))
              clear hlo hhi hc
              go_wp2_with (go_at_call 97; (with_reducible refine (HWD.out _).mono ?_); rintro e w6 ⟨rfl, hk6⟩; have O6 := Lib.hid (OU.out.keep hk6); clear hk6)
              go_ret2
              rw [HUS.out]
              exact split_no E.out O6.out.2
          · have hqe : q = n1 := by omega
            have hall : winB us = true := by have h := HW.out; rwa [List.take_of_length_le (by rw [LU.out]; omega)] at h
            have HA := Lib.hid hall
            clear hall
            by_cases hz : n1 = 0
            · subst hz
              obtain rfl : us = [] := List.eq_nil_of_length_eq_zero LU.out
              obtain ⟨rfl, _, rfl⟩ := HZ.out rfl
              go_wp2_with (go_at_call 57; (with_reducible refine (sortf_nil _).mono ?_); rintro e w6 ⟨rfl, rfl⟩)
              go_ret2
              rw [HUS.out]
              exact split_yes HA.out (by rw [show sortU [] = [] from List.eq_nil_of_length_eq_zero (sortU_is []).2]; exact OU.out)
            · obtain ⟨g, cap, e, hg1, hg2⟩ := OU.out.form (by rw [LU.out]; omega)
              injection e with e1 e2 e3
              subst e1 e3
              clear e2
              go_wp2_with (go_at_call 57; (with_reducible refine (sortfU_any us g n1 cc w _ OU.out (by omega)).mono ?_); rintro e w6 ⟨rfl, ho6, hg6⟩; have O6 := Lib.hid ho6; clear ho6 hg6)
              go_ret2
              rw [HUS.out]
              exact split_yes HA.out O6.out
end Go.Proofs.Ythkmpegpmpdhaaa
