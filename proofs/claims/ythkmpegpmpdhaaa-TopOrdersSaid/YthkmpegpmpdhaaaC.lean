/- Part of the proofs of TopMoney and TopOrders. Conditions: as stated in each theorem. -/
import Derived.Test.YthkmpegpmpdhaaaB
import Derived.Deep.CutRange
import Derived.StillTailTactics
import Derived.Lib.SliceRun
import Derived.Test.YthkmpegpmpdhaaaRows
import Derived.WalkKit
import Derived.WalkSpells
import Derived.WalkLawsBesides
import Derived.Laws.EntriesVeiled
import Derived.ProofKit
import Derived.OpenShut
import Derived.Lib.Hide
import Derived.BigQuiet
import Derived.Deep.QuietTactic
import Derived.Below
import Derived.Laws.OwnMore
import Derived.Deep.AppendLies
import Derived.Deep.Draws
import Derived.Laws.Rows
import Derived.Maps.AppendAt
import Derived.RegionTactic
import Derived.OwnWalk
import Derived.Deep.RegionHeld3
namespace Go.Proofs.Ythkmpegpmpdhaaa
open Go.ChangeShapes Go.WideShapes Go.ChangeAt Go.RowKit
set_option linter.unusedSimpArgs false
set_option linter.unusedVariables false
def cmpI (x y : Int) : Int := if x < y then -1 else if y < x then 1 else 0
theorem cmpI_lt (x y : Int) : cmpI x y < 0 ↔ x < y := by unfold cmpI; split <;> (try split) <;> omega
theorem cmp_any (x y : Int) (w : World) : Calls Try.prog 25 #[.int .i64 x, .int .i64 y] w fun e w' => e = .returned (.int .i64 (cmpI x y)) ∧ w' = w := by
  by_cases h : x < y
  · have h' : decide (x < y) = true := by simpa using h
    rw [show cmpI x y = -1 by unfold cmpI; rw [if_pos h]]
    go_enter Try.func25, Try.ntmps25
    go_wp2
    go_ret
    exact ⟨rfl, rfl⟩
  · have h' : decide (x < y) = false := by simpa using h
    by_cases h2 : y < x
    · have h2' : decide (y < x) = true := by simpa using h2
      rw [show cmpI x y = 1 by unfold cmpI; rw [if_neg h, if_pos h2]]
      go_enter Try.func25, Try.ntmps25
      go_wp2
      go_ret
      exact ⟨rfl, rfl⟩
    · have h2' : decide (y < x) = false := by simpa using h2
      rw [show cmpI x y = 0 by unfold cmpI; rw [if_neg h, if_neg h2]]
      go_enter Try.func25, Try.ntmps25
      go_wp2
      go_ret
      exact ⟨rfl, rfl⟩
theorem cmp_rev (x y : Int) (w : World) : Calls Try.prog 31 #[.int .i64 x, .int .i64 y] w fun e w' => e = .returned (.int .i64 (cmpI y x)) ∧ w' = w := by
  have hcon := fun W => cmp_any y x W
  generalize cmpI y x = r at hcon ⊢
  go_enter Try.func31, Try.ntmps31
  go_wp2_with (go_at_call 25; refine (hcon _).mono ?_; rintro e w1 ⟨rfl, rfl⟩)
  go_ret
  exact ⟨rfl, rfl⟩
/-- A number within a limit is none that is wrong. -/
theorem wrong_no (x m : Int) (b : Nat) (w : World) (hb : w.cell? ⟨b, 0, none⟩ = some (.int .i64 m)) (h : Hid (-m ≤ x ∧ x ≤ m)) (hm : Hid (0 ≤ m ∧ m ≤ 1000000000000)) : Calls Try.prog 53 #[.int .i64 x, .pointer (some ⟨b, 0, none⟩)] w fun e w' => e = .returned (.bool false) ∧ w' = w := by
  have h' := h.out
  have hm' := hm.out
  have hw : IntKind.i64.wrap (-m) = -m := IntWalk.i64_in _ (by omega)
  have h1 : decide (x < -m) = false := by simp; omega
  have h2 : decide (m < x) = false := by simp; omega
  clear h h' hm hm'
  go_enter Try.func53, Try.ntmps53
  go_wp2
  go_ret
  exact ⟨rfl, rfl⟩
theorem wrong_make (m : Int) (w : World) : Calls Try.prog 28 #[.int .i64 m] w fun e w' => e = .returned (.func (.func 53) #[] #[.pointer (some ⟨w.heap.size, 0, none⟩)]) ∧ w' = w.alloc (.cells #[.int .i64 m] 3) := by
  go_enter Try.func28, Try.ntmps28
  go_wp2
  go_ret
  exact ⟨rfl, rfl⟩
set_option maxHeartbeats 1000000 in
theorem index_no (l : List Int) (m : Int) (b : Nat) (A : Option Addr) (n c : Nat) (w : World) (hl : RecIn intR w w.heap.size A l) (hln : Hid (n = l.length)) (hn : n ≤ 1000000) (hb : Hid (w.cell? ⟨b, 0, none⟩ = some (.int .i64 m))) (h : Hid (∀ x ∈ l, -m ≤ x ∧ x ≤ m)) (hm : Hid (0 ≤ m ∧ m ≤ 1000000000000)) :
    Calls Try.prog 52 #[.slice A n c, .func (.func 53) #[] #[.pointer (some ⟨b, 0, none⟩)]] w fun e w' => e = .returned (.int .i64 (-1)) ∧ Keeps w w' := by
  have HL := Lib.hid hl; clear hl
  go_enter Try.func52, Try.ntmps52
  go_wp2
  go_loopw [8] (fun i wr => ∃ k : Nat, k ≤ n ∧ i = .int .i64 (k : Int) ∧ Keeps w wr) (fun i _ => n - (intOf i).toNat)
  case atStart => exact ⟨0, by omega, rfl, Keeps.refl _⟩
  case round =>
    obtain ⟨k, hk, rfl, hK⟩ := hrel
    by_cases hkn : k < n
    · have hok : l[k]? = some (l[k]'(by rw [← hln.out]; exact hkn)) := List.getElem?_eq_getElem _
      generalize l[k]'(by rw [← hln.out]; exact hkn) = x at hok
      obtain ⟨bb, off, rfl, hb1, c0⟩ := (HL.out.keep hK).int hok
      have HX := Lib.hid (h.out x (List.mem_of_getElem? hok))
      have hki : (k : Int) < (n : Int) := by omega
      have hk0 : (0 : Int) ≤ (k : Int) := by omega
      have hkw : IntKind.i64.wrap ((k : Int) + 1) = (k : Int) + 1 := IntWalk.i64_in _ (by omega)
      have HB := Lib.hid (cell_keep hb.out hK)
      clear hok
      go_wp2_with (go_at_call 53; (with_reducible refine (wrong_no x m b _ HB.out HX hm).mono ?_); rintro e w1 ⟨rfl, rfl⟩)
      go_roundw
      case rel => first | exact ⟨k + 1, by omega, by go_num, hK⟩ | ((repeat apply Exists.intro); exact ⟨⟨k + 1, by omega, by go_num, hK⟩, rfl⟩)
      case measure => simp [intOf]; omega
    · go_wp2
      go_ret
      exact ⟨rfl, hK⟩
theorem contains_no (l : List Int) (m : Int) (b : Nat) (A : Option Addr) (n c : Nat) (w : World) (hl : RecIn intR w w.heap.size A l) (hln : Hid (n = l.length)) (hn : n ≤ 1000000) (hb : Hid (w.cell? ⟨b, 0, none⟩ = some (.int .i64 m))) (h : Hid (∀ x ∈ l, -m ≤ x ∧ x ≤ m)) (hm : Hid (0 ≤ m ∧ m ≤ 1000000000000)) :
    Calls Try.prog 27 #[.slice A n c, .func (.func 53) #[] #[.pointer (some ⟨b, 0, none⟩)]] w (BoolPost false w) := by
  have HL := Lib.hid hl; clear hl
  go_enter Try.func27, Try.ntmps27
  go_wp2_with (go_at_call 52; (with_reducible refine (index_no l m b A n c _ HL.out hln hn hb h hm).mono ?_); rintro e w1 ⟨rfl, hk1⟩)
  go_ret
  exact bool_post rfl hk1
set_option maxRecDepth 100000 in
theorem clone_ints (l : List Int) (A : Option Addr) (n c : Nat) (w : World) (hl : RecIn intR w w.heap.size A l) (hln : Hid (n = l.length)) (hn : n ≤ 100000) (hA : ∃ ad, A = some ad) :
    Calls Try.prog 29 #[.slice A n c] w fun e w' => ∃ A' c', e = .returned (.slice A' n c') ∧ OwnR intR w w' (.slice A' n c') l := by
  obtain ⟨ad, rfl⟩ := hA
  have q28 : ∀ (w : World) (a : Option Addr) (n c n' c' : Nat), (binOp .eql 28 (.slice a n c) (.slice none n' c')).run Try.prog w = .ok (.bool a.isNone) w := fun w a n c n' c' => Lib.run_eql_slice_nil w _ _ a n c n' c' Try.underlying28
  have O0 := Lib.hid (OwnR.lit (R := intR) (Keeps.refl w))
  have OL := Lib.hid (hl.keep O0.out.2)
  have L0 := Lib.hid (show ([] : List Int).length + l.length ≤ 1000000 by have := hln.out; simp; omega)
  clear hl
  go_enter Try.func29, Try.ntmps29
  go_wp2_with (at_builtin; refine wpList_appR intOk rfl (.tmp 5) (.tmp 6) rfl _ [] rfl O0.out _ n c l rfl OL.out hln L0 ?_; intro A' n' c' w6 ho6 hg6; clear hg6; replace ho6 : OwnR intR w w6 (.slice A' n' c') l := ho6; have H6 := Lib.hid ho6; clear ho6)
  go_ret
  have hn := (H6.out.recs intOk).2
  have e : n' = n := by have := hln.out; omega
  subst e
  exact ⟨_, _, rfl, H6.out⟩
set_option maxHeartbeats 1000000 in
theorem first_25 (l : List Int) (A : Option Addr) (n c : Nat) (w : World) (hl : RecIn intR w w.heap.size A l) (hln : Hid (n = l.length)) (hn : n ≤ 1000000) (r : Nat) (hr : Hid (firstB (fun a b => decide (a < b)) l l.length = r)) :
    Calls Try.prog 30 #[.slice A n c, .func (.func 25) #[] #[]] w fun e w' => e = .returned (.int .i64 (r : Int)) ∧ Keeps w w' := by
  have HL := Lib.hid hl; clear hl
  go_enter Try.func30, Try.ntmps30
  go_wp2
  go_loopw [5, 9] (fun v i wr => ∃ (k b : Nat), k ≤ n ∧ i = .int .i64 (k : Int) ∧ v = .int .i64 (b : Int) ∧ Hid (firstB (fun a b => decide (a < b)) l k = b) ∧ Keeps w wr) (fun _ i _ => n - (intOf i).toNat)
  case atStart => exact ⟨0, 0, by omega, rfl, rfl, rfl, Keeps.refl _⟩
  case round =>
    obtain ⟨k, b, hk, rfl, rfl, HB, hK⟩ := hrel
    by_cases hkn : k < n
    · have hbn : b < n := by
        rw [← HB.out]; exact firstB_lt _ l n k hk (by omega)
      have hkl : k < l.length := by rw [← hln.out]; exact hkn
      have hbl : b < l.length := by rw [← hln.out]; exact hbn
      obtain ⟨bb, off, rfl, hb1, c0⟩ := (HL.out.keep hK).int (get_at0 hkl)
      obtain ⟨bb', off', e, hb2, c1⟩ := (HL.out.keep hK).int (get_at0 hbl)
      cases e
      have HN := Lib.hid (show firstB (fun a b => decide (a < b)) l (k + 1) = if at0 l k < at0 l b then k else b by simp only [firstB]; rw [HB.out]; simp)
      generalize at0 l k = x at *
      generalize at0 l b = y at *
      have hki : (k : Int) < (n : Int) := by omega
      have hk0 : (0 : Int) ≤ (k : Int) := by omega
      have hbi : (b : Int) < (n : Int) := by omega
      have hb0 : (0 : Int) ≤ (b : Int) := by omega
      have hkw : IntKind.i64.wrap ((k : Int) + 1) = (k : Int) + 1 := IntWalk.i64_in _ (by omega)
      clear hbl hkl
      have hcon := fun W => cmp_any x y W
      have hlt := cmpI_lt x y
      generalize cmpI x y = r0 at hcon hlt
      have HC := Lib.hid hcon
      clear hcon
      by_cases hc : x < y
      · have h0 : decide (r0 < 0) = true := by simpa using hlt.2 hc
        have HN2 := Lib.hid (HN.out.trans (if_pos hc))
        clear hlt hc HN HB
        go_wp2_with fail
        go_quiet ((go_at_call 25; exact Calls.quiet_of_same (HC.out _)))
        go_wp2_with fail
        go_roundw
        case rel => first | exact ⟨k + 1, k, by omega, by go_num, rfl, HN2.out, hK.drewN _⟩ | ((repeat apply Exists.intro); exact ⟨⟨k + 1, k, by omega, by go_num, rfl, HN2.out, hK.drewN _⟩, rfl⟩)
        case measure => simp [intOf]; omega
      · have h0 : decide (r0 < 0) = false := by simpa using fun h => hc (hlt.1 h)
        have HN2 := Lib.hid (HN.out.trans (if_neg hc))
        clear hlt hc HN HB
        go_wp2_with fail
        go_quiet ((go_at_call 25; exact Calls.quiet_of_same (HC.out _)))
        go_wp2_with fail
        go_roundw
        case rel => first | exact ⟨k + 1, b, by omega, by go_num, rfl, HN2.out, hK.drewN _⟩ | ((repeat apply Exists.intro); exact ⟨⟨k + 1, b, by omega, by go_num, rfl, HN2.out, hK.drewN _⟩, rfl⟩)
        case measure => simp [intOf]; omega
    · have e : b = r := by
        rw [← HB.out, ← hr.out, show k = l.length by have := hln.out; omega]
      subst e
      go_wp2_with fail
      go_ret
      exact ⟨rfl, hK⟩
set_option maxHeartbeats 1000000 in
theorem first_31 (l : List Int) (A : Option Addr) (n c : Nat) (w : World) (hl : RecIn intR w w.heap.size A l) (hln : Hid (n = l.length)) (hn : n ≤ 1000000) (r : Nat) (hr : Hid (firstB (fun a b => decide (b < a)) l l.length = r)) :
    Calls Try.prog 30 #[.slice A n c, .func (.func 31) #[] #[]] w fun e w' => e = .returned (.int .i64 (r : Int)) ∧ Keeps w w' := by
  have HL := Lib.hid hl; clear hl
  go_enter Try.func30, Try.ntmps30
  go_wp2
  go_loopw [5, 9] (fun v i wr => ∃ (k b : Nat), k ≤ n ∧ i = .int .i64 (k : Int) ∧ v = .int .i64 (b : Int) ∧ Hid (firstB (fun a b => decide (b < a)) l k = b) ∧ Keeps w wr) (fun _ i _ => n - (intOf i).toNat)
  case atStart => exact ⟨0, 0, by omega, rfl, rfl, rfl, Keeps.refl _⟩
  case round =>
    obtain ⟨k, b, hk, rfl, rfl, HB, hK⟩ := hrel
    by_cases hkn : k < n
    · have hbn : b < n := by
        rw [← HB.out]; exact firstB_lt _ l n k hk (by omega)
      have hkl : k < l.length := by rw [← hln.out]; exact hkn
      have hbl : b < l.length := by rw [← hln.out]; exact hbn
      obtain ⟨bb, off, rfl, hb1, c0⟩ := (HL.out.keep hK).int (get_at0 hkl)
      obtain ⟨bb', off', e, hb2, c1⟩ := (HL.out.keep hK).int (get_at0 hbl)
      cases e
      have HN := Lib.hid (show firstB (fun a b => decide (b < a)) l (k + 1) = if at0 l b < at0 l k then k else b by simp only [firstB]; rw [HB.out]; simp)
      generalize at0 l k = x at *
      generalize at0 l b = y at *
      have hki : (k : Int) < (n : Int) := by omega
      have hk0 : (0 : Int) ≤ (k : Int) := by omega
      have hbi : (b : Int) < (n : Int) := by omega
      have hb0 : (0 : Int) ≤ (b : Int) := by omega
      have hkw : IntKind.i64.wrap ((k : Int) + 1) = (k : Int) + 1 := IntWalk.i64_in _ (by omega)
      clear hbl hkl
      have hcon := fun W => cmp_rev x y W
      have hlt := cmpI_lt y x
      generalize cmpI y x = r0 at hcon hlt
      have HC := Lib.hid hcon
      clear hcon
      by_cases hc : y < x
      · have h0 : decide (r0 < 0) = true := by simpa using hlt.2 hc
        have HN2 := Lib.hid (HN.out.trans (if_pos hc))
        clear hlt hc HN HB
        go_wp2_with fail
        go_quiet ((go_at_call 31; exact Calls.quiet_of_same (HC.out _)))
        go_wp2_with fail
        go_roundw
        case rel => first | exact ⟨k + 1, k, by omega, by go_num, rfl, HN2.out, hK.drewN _⟩ | ((repeat apply Exists.intro); exact ⟨⟨k + 1, k, by omega, by go_num, rfl, HN2.out, hK.drewN _⟩, rfl⟩)
        case measure => simp [intOf]; omega
      · have h0 : decide (r0 < 0) = false := by simpa using fun h => hc (hlt.1 h)
        have HN2 := Lib.hid (HN.out.trans (if_neg hc))
        clear hlt hc HN HB
        go_wp2_with fail
        go_quiet ((go_at_call 31; exact Calls.quiet_of_same (HC.out _)))
        go_wp2_with fail
        go_roundw
        case rel => first | exact ⟨k + 1, b, by omega, by go_num, rfl, HN2.out, hK.drewN _⟩ | ((repeat apply Exists.intro); exact ⟨⟨k + 1, b, by omega, by go_num, rfl, HN2.out, hK.drewN _⟩, rfl⟩)
        case measure => simp [intOf]; omega
    · have e : b = r := by
        rw [← HB.out, ← hr.out, show k = l.length by have := hln.out; omega]
      subst e
      go_wp2_with fail
      go_ret
      exact ⟨rfl, hK⟩
end Go.Proofs.Ythkmpegpmpdhaaa
