import Derived.Test.YtkfcebojfnnieaaC
import Derived.Test.YtkfcebojfnnieaaRows
import Derived.WalkKit
import Derived.WalkSpells
import Derived.WalkLawsBesides
import Derived.Laws.EntriesVeiled
import Derived.ProofKit
import Derived.OpenShut
import Derived.Lib.Hide
import Derived.BigQuiet
import Derived.Deep.QuietTactic
import Derived.Below
import Derived.Laws.OwnMore
import Derived.Deep.AppendLies
import Derived.Deep.Draws
import Derived.Laws.Rows
import Derived.Maps.AppendAt
import Derived.RegionTactic
import Derived.OwnWalk
import Derived.Deep.RegionHeld3
namespace Go.Proofs.Ytkfcebojfnnieaa
open Go.ChangeShapes Go.WideShapes Go.ChangeAt Go.RowKit
set_option linter.unusedSimpArgs false
set_option linter.unusedVariables false
theorem at_nat {l : List Int} {k : Nat} {x : Int} (h : l[k]? = some x) : at' l (k : Int) = x := by simp [at', List.getD_eq_getElem?_getD, h]
theorem add_sub1 (k : Nat) : (k : Int) + 1 - 1 = (k : Int) := by omega
set_option maxHeartbeats 2000000 in
theorem stable_yes (l m : List Int) (A B : Option Addr) (n c n' c' : Nat) (w : World) (hl : Nums .i64 w w.heap.size A l) (hm : Nums .i64 w w.heap.size B m) (hn : l.length ≤ 1000000000000) (hn' : m.length ≤ 1000000000000) (hln : n = l.length) (hlm : n' = m.length)
    (hin : ∀ a ∈ l, 0 ≤ a ∧ a < (m.length : Int)) (hs : sortedBy m l) : Calls Try.prog 26 #[.slice A n c, .slice B n' c'] w (BoolPost true w) := by
  have HS := Lib.hid hs; clear hs
  have HI := Lib.hid hin; clear hin
  rw [← hln] at hn
  rw [← hlm] at hn'
  have HN := Lib.hid hln; clear hln
  have HM := Lib.hid hlm; clear hlm
  go_enter Try.func26, Try.ntmps26
  go_wp2
  go_loopw [5] (fun i wr => ∃ k : Nat, (k + 1 ≤ n ∨ k = 0) ∧ i = .int .i64 ((k : Int) + 1) ∧ Keeps w wr) (fun i _ => n - (intOf i).toNat)
  case atStart => exact ⟨0, by omega, rfl, Keeps.refl _⟩
  case round =>
    obtain ⟨k, hk, rfl, hK⟩ := hrel
    by_cases hkn : k + 1 < n
    · have hi0 : k < l.length := by rw [← HN.out]; omega
      have hi1 : k + 1 < l.length := by rw [← HN.out]; omega
      have hok : l[k]? = some l[k] := List.getElem?_eq_getElem hi0
      have hok' : l[k + 1]? = some l[k + 1] := List.getElem?_eq_getElem hi1
      have hsr := List.pairwise_iff_getElem.1 HS.out k (k + 1) hi0 hi1 (by omega)
      have hax := HI.out _ (List.getElem_mem hi0)
      have hby := HI.out _ (List.getElem_mem hi1)
      generalize l[k] = a at *
      generalize l[k + 1] = b at *
      rw [← HM.out] at hax hby
      obtain ⟨p, rfl⟩ : ∃ p : Nat, a = (p : Int) := ⟨a.toNat, by omega⟩
      obtain ⟨q, rfl⟩ : ∃ q : Nat, b = (q : Int) := ⟨b.toNat, by omega⟩
      have hp : p < n' := by omega
      have hq : q < n' := by omega
      have ho1 : m[p]? = some (m[p]'(by rw [← HM.out]; exact hp)) := List.getElem?_eq_getElem _
      have ho2 : m[q]? = some (m[q]'(by rw [← HM.out]; exact hq)) := List.getElem?_eq_getElem _
      rw [at_nat ho1, at_nat ho2] at hsr
      obtain ⟨b1, off, rfl, hb, c0⟩ := (hl.keep hK) k _ hok
      obtain ⟨b1', off', he, hb', c1⟩ := (hl.keep hK) (k + 1) _ hok'
      obtain ⟨b2, off2, rfl, hb2, d0⟩ := (hm.keep hK) p _ ho1
      obtain ⟨b2', off2', he2, hb2', d1⟩ := (hm.keep hK) q _ ho2
      injection he with he; injection he with e1 e2; subst e1; subst e2
      injection he2 with he; injection he with e1 e2; subst e1; subst e2
      generalize (m[p]'(by rw [← HM.out]; exact hp)) = u at *
      generalize (m[q]'(by rw [← HM.out]; exact hq)) = v at *
      clear ho1 ho2 hok hok' hax hby hi0 hi1 hb' hb2'
      have hki : (k : Int) + 1 < (n : Int) := by omega
      have hk0 : (0 : Int) ≤ (k : Int) := by omega
      have hw1 : IntKind.i64.wrap ((k : Int) + 1 + 1) = (k : Int) + 1 + 1 := IntWalk.i64_in _ (by omega)
      have hw2 : IntKind.i64.wrap ((k : Int) + 1 - 1) = (k : Int) := by rw [add_sub1]; exact IntWalk.i64_in _ (by omega)
      have h1 : decide ((p : Int) < 0) = false := by simp
      have h2 : decide ((q : Int) < 0) = false := by simp
      have h3 : decide (n' ≤ p) = false := by simp; omega
      have h4 : decide (n' ≤ q) = false := by simp; omega
      have h3' : decide ((n' : Int) ≤ (p : Int)) = false := by simp; omega
      have h4' : decide ((n' : Int) ≤ (q : Int)) = false := by simp; omega
      have h5 : decide (v < u) = false := by simp; omega
      by_cases e : u = v
      · have h6 : (u == v) = true := by simpa using e
        have h7 : decide (q ≤ p) = false := by simp; omega
        have h7' : decide ((q : Int) ≤ (p : Int)) = false := by simp; omega
        clear e hsr
        go_wp2
        go_quiet (fail)
        go_wp2
        go_roundw
        case rel => exact ⟨k + 1, by omega, by go_num, hK.drewN _⟩
        case measure => simp [intOf]; omega
      · have h6 : (u == v) = false := by simpa using e
        clear e hsr
        go_wp2
        go_quiet (fail)
        go_wp2
        go_roundw
        case rel => exact ⟨k + 1, by omega, by go_num, hK.drewN _⟩
        case measure => simp [intOf]; omega
    · have hkn' : decide ((k : Int) + 1 < (n : Int)) = false := by simp; omega
      go_wp2
      go_ret
      exact bool_post rfl hK

def firstF (P n : Nat) : Nat → Nat → Nat × Nat
  | 0, _ => (0, 140)
  | f + 1, k => if n ≤ pw P k then (k, 0) else firstF P n f (k + 1)
def argB (P n hi : Int) : Bool := machB P && (decide (0 ≤ n) && decide (n ≤ hi))
/-- A pair of numbers, memory kept. -/
def PairPost (a b : Int) (w : World) (e : Ending) (w' : World) : Prop := e = .returned (.tuple #[.int .i64 a, .int .i64 b]) ∧ Keeps w w'
theorem pair_post {a b c d : Int} {w w' : World} (h : a = c) (h' : b = d) (hk : Keeps w w') : PairPost a b w (.returned (.tuple #[.int .i64 c, .int .i64 d])) w' := ⟨by rw [h, h'], hk⟩

set_option maxHeartbeats 1000000 in
theorem passes_bad (P n : Int) (w : World) (h : argB P n 100000 = false) : Calls Try.prog 13 #[.int .i64 P, .int .i64 n] w (PairPost 0 1 w) := by
  cases hm : machB P
  · have HM := Lib.hid hm; clear hm h
    go_enter Try.func13, Try.ntmps13
    go_wp2_with ((go_at_call 29; with_reducible refine (machine_any _ _ false HM.out).mono ?_; rintro e w' ⟨rfl, rfl⟩))
    go_ret2
    exact ⟨rfl, Keeps.refl _⟩
  · have h2 : ¬ (0 ≤ n ∧ n ≤ 100000) := by simp [argB, hm] at h; omega
    have HM := Lib.hid hm; clear hm h
    by_cases h3 : n < 0
    · have h3' : decide (n < 0) = true := by simpa using h3
      clear h2
      go_enter Try.func13, Try.ntmps13
      go_wp2_with ((go_at_call 29; with_reducible refine (machine_any _ _ true HM.out).mono ?_; rintro e w' ⟨rfl, rfl⟩))
      go_ret2
      exact ⟨rfl, Keeps.refl _⟩
    · have h3' : decide (n < 0) = false := by simpa using h3
      have h4 : 100000 < n := by omega
      have h4' : decide (100000 < n) = true := by simpa using h4
      clear h2
      go_enter Try.func13, Try.ntmps13
      go_wp2_with ((go_at_call 29; with_reducible refine (machine_any _ _ true HM.out).mono ?_; rintro e w' ⟨rfl, rfl⟩))
      go_ret2
      exact ⟨rfl, Keeps.refl _⟩

set_option maxHeartbeats 2000000 in
theorem passes_ok (P n : Nat) (w : World) (hP1 : 2 ≤ P) (hP2 : P ≤ 64) (hn : n ≤ 100000) (r : Nat × Nat) (hr : firstF P n 4 1 = r) : Calls Try.prog 13 #[.int .i64 (P : Int), .int .i64 (n : Int)] w (PairPost (r.1 : Int) (r.2 : Int) w) := by
  have HRR := Lib.hid hr; clear hr
  have HM := Lib.hid (show machB (P : Int) = true by simp [machB]; omega)
  have t1' : decide ((P : Int) < 2) = false := by simp; omega
  have t2' : decide ((64 : Int) < (P : Int)) = false := by simp; omega
  have t3' : decide ((n : Int) < 0) = false := by simp
  have t4' : decide ((100000 : Int) < (n : Int)) = false := by simp; omega
  go_enter Try.func13, Try.ntmps13
  go_wp2_with ((go_at_call 29; with_reducible refine (machine_any _ _ true HM.out).mono ?_; rintro e w' ⟨rfl, rfl⟩))
  go_loop [6] (fun i => ∃ k f : Nat, k + f = 5 ∧ 1 ≤ k ∧ i = .int .i64 (k : Int) ∧ firstF P n f k = r) (fun i => 5 - (intOf i).toNat)
  case atStart => exact ⟨1, 4, by omega, by omega, rfl, HRR.out⟩
  case round =>
    obtain ⟨k, f, hkf, hk, rfl, hr⟩ := hrel
    by_cases hk4 : k ≤ 4
    · obtain ⟨g, rfl⟩ : ∃ g, f = g + 1 := ⟨f - 1, by omega⟩
      have hki : (k : Int) ≤ 4 := by omega
      have hpl := pw_le64 hP2 hk4
      have hrr : (if n ≤ pw P k then (k, 0) else firstF P n g (k + 1)) = r := hr
      clear hr
      have HP := Lib.hid (rfl : pw P k = pw P k)
      obtain ⟨a, ha⟩ : ∃ a, a = pw P k := ⟨_, rfl⟩
      rw [← ha] at HP hpl hrr
      have HA := Lib.hid ha.symm; clear ha
      by_cases hle : n ≤ a
      · have HL := Lib.hid ((if_pos hle).symm.trans hrr); clear hrr
        have hli : (n : Int) ≤ (a : Int) := by omega
        have hli' : decide ((n : Int) ≤ (a : Int)) = true := by simpa using hli
        go_wp2_with (go_at_call 30; with_reducible refine (power_any P k _ hP2 hk4 a HA.out).mono ?_; rintro e w' ⟨rfl, rfl⟩)
        go_ret2
        rw [← HL.out]
        exact ⟨rfl, Keeps.refl _⟩
      · have HL := Lib.hid ((if_neg hle).symm.trans hrr); clear hrr
        have hli : ¬ (n : Int) ≤ (a : Int) := by omega
        have hli' : decide (n ≤ a) = false := by simp; omega
        have hli'' : decide ((n : Int) ≤ (a : Int)) = false := by simp; omega
        go_wp2_with (go_at_call 30; with_reducible refine (power_any P k _ hP2 hk4 a HA.out).mono ?_; rintro e w' ⟨rfl, rfl⟩)
        go_round
        case rel => exact ⟨k + 1, g, by omega, by omega, by go_num, HL.out⟩
        case measure => simp [intOf]; omega
    · obtain rfl : f = 0 := by omega
      have HL := Lib.hid hr; clear hr
      go_wp2
      go_ret2
      rw [← HL.out]
      exact ⟨rfl, Keeps.refl _⟩

set_option maxHeartbeats 1000000 in
theorem rpasses_bad (P n : Int) (w : World) (h : argB P n 100000 = false) : Calls Try.prog 14 #[.int .i64 P, .int .i64 n] w (PairPost 0 1 w) := by
  have h2 : ¬ (2 ≤ P ∧ P ≤ 64 ∧ 0 ≤ n ∧ n ≤ 100000) := by simp [argB, machB] at h; omega
  clear h
  by_cases t1 : P < 2
  · have t1' : decide (P < 2) = true := by simpa using t1
    clear h2
    go_enter Try.func14, Try.ntmps14
    go_wp2
    go_ret2
    exact ⟨rfl, Keeps.refl _⟩
  have t1' : decide (P < 2) = false := by simpa using t1
  by_cases t2 : 64 < P
  · have t2' : decide (64 < P) = true := by simpa using t2
    clear h2
    go_enter Try.func14, Try.ntmps14
    go_wp2
    go_ret2
    exact ⟨rfl, Keeps.refl _⟩
  have t2' : decide (64 < P) = false := by simpa using t2
  by_cases t3 : n < 0
  · have t3' : decide (n < 0) = true := by simpa using t3
    clear h2
    go_enter Try.func14, Try.ntmps14
    go_wp2
    go_ret2
    exact ⟨rfl, Keeps.refl _⟩
  have t3' : decide (n < 0) = false := by simpa using t3
  have t4 : 100000 < n := by omega
  have t4' : decide (100000 < n) = true := by simpa using t4
  clear h2
  go_enter Try.func14, Try.ntmps14
  go_wp2
  go_ret2
  exact ⟨rfl, Keeps.refl _⟩

set_option maxHeartbeats 2000000 in
theorem rpasses_ok (P n : Nat) (w : World) (hP1 : 2 ≤ P) (hP2 : P ≤ 64) (hn : n ≤ 100000) (r : Nat × Nat) (hr : firstF P n 4 1 = r) : Calls Try.prog 14 #[.int .i64 (P : Int), .int .i64 (n : Int)] w (PairPost (r.1 : Int) (r.2 : Int) w) := by
  have HRR := Lib.hid hr; clear hr
  have HM := Lib.hid (show machB (P : Int) = true by simp [machB]; omega)
  have t1' : decide ((P : Int) < 2) = false := by simp; omega
  have t2' : decide ((64 : Int) < (P : Int)) = false := by simp; omega
  have t3' : decide ((n : Int) < 0) = false := by simp
  have t4' : decide ((100000 : Int) < (n : Int)) = false := by simp; omega
  go_enter Try.func14, Try.ntmps14
  go_wp2_with (fail)
  go_loop [6] (fun i => ∃ k f : Nat, k + f = 5 ∧ 1 ≤ k ∧ i = .int .i64 (k : Int) ∧ firstF P n f k = r) (fun i => 5 - (intOf i).toNat)
  case atStart => exact ⟨1, 4, by omega, by omega, rfl, HRR.out⟩
  case round =>
    obtain ⟨k, f, hkf, hk, rfl, hr⟩ := hrel
    by_cases hk4 : k ≤ 4
    · obtain ⟨g, rfl⟩ : ∃ g, f = g + 1 := ⟨f - 1, by omega⟩
      have hki : (k : Int) ≤ 4 := by omega
      have hpl := pw_le64 hP2 hk4
      have hrr : (if n ≤ pw P k then (k, 0) else firstF P n g (k + 1)) = r := hr
      clear hr
      have HP := Lib.hid (rfl : pw P k = pw P k)
      obtain ⟨a, ha⟩ : ∃ a, a = pw P k := ⟨_, rfl⟩
      rw [← ha] at HP hpl hrr
      have HA := Lib.hid ha.symm; clear ha
      by_cases hle : n ≤ a
      · have HL := Lib.hid ((if_pos hle).symm.trans hrr); clear hrr
        have hli : (n : Int) ≤ (a : Int) := by omega
        have hli' : decide ((n : Int) ≤ (a : Int)) = true := by simpa using hli
        go_wp2_with (go_at_call 27; with_reducible refine (rpower_any P k _ hP2 hk4 a HA.out).mono ?_; rintro e w' ⟨rfl, rfl⟩)
        go_ret2
        rw [← HL.out]
        exact ⟨rfl, Keeps.refl _⟩
      · have HL := Lib.hid ((if_neg hle).symm.trans hrr); clear hrr
        have hli : ¬ (n : Int) ≤ (a : Int) := by omega
        have hli' : decide (n ≤ a) = false := by simp; omega
        have hli'' : decide ((n : Int) ≤ (a : Int)) = false := by simp; omega
        go_wp2_with (go_at_call 27; with_reducible refine (rpower_any P k _ hP2 hk4 a HA.out).mono ?_; rintro e w' ⟨rfl, rfl⟩)
        go_round
        case rel => exact ⟨k + 1, g, by omega, by omega, by go_num, HL.out⟩
        case measure => simp [intOf]; omega
    · obtain rfl : f = 0 := by omega
      have HL := Lib.hid hr; clear hr
      go_wp2
      go_ret2
      rw [← HL.out]
      exact ⟨rfl, Keeps.refl _⟩
end Go.Proofs.Ytkfcebojfnnieaa
