import Derived.Test.YtkfcebojfnnieaaI
import Derived.Test.YtkfcebojfnnieaaRows
import Derived.WalkKit
import Derived.WalkSpells
import Derived.WalkLawsBesides
import Derived.Laws.EntriesVeiled
import Derived.ProofKit
import Derived.OpenShut
import Derived.Lib.Hide
import Derived.BigQuiet
import Derived.Deep.QuietTactic
import Derived.Below
import Derived.Laws.OwnMore
import Derived.Deep.AppendLies
import Derived.Deep.Draws
import Derived.Laws.Rows
import Derived.Maps.AppendAt
import Derived.RegionTactic
import Derived.OwnWalk
import Derived.Deep.RegionHeld3
namespace Go.Proofs.Ytkfcebojfnnieaa
open Go.ChangeShapes Go.WideShapes Go.ChangeAt Go.RowKit
set_option linter.unusedSimpArgs false
set_option linter.unusedVariables false
theorem passes_both (P n : Int) : ∃ a b : Int, (∀ w, Calls Try.prog 13 #[.int .i64 P, .int .i64 n] w (PairPost a b w)) ∧ (∀ w, Calls Try.prog 14 #[.int .i64 P, .int .i64 n] w (PairPost a b w)) := by
  cases h : argB P n 100000
  · exact ⟨0, 1, fun w => passes_bad P n w h, fun w => rpasses_bad P n w h⟩
  · simp only [argB, machB, Bool.and_eq_true, decide_eq_true_eq] at h
    obtain ⟨Q, rfl⟩ : ∃ Q : Nat, P = (Q : Int) := ⟨P.toNat, by omega⟩
    obtain ⟨m, rfl⟩ : ∃ m : Nat, n = (m : Int) := ⟨n.toNat, by omega⟩
    exact ⟨_, _, fun w => passes_ok Q m w (by omega) (by omega) (by omega) _ rfl, fun w => rpasses_ok Q m w (by omega) (by omega) (by omega) _ rfl⟩
theorem schemeF_mem {P k n : Nat} {l : List Int} (h : l ∈ schemeF P k n) : l.length = n := by
  simp only [schemeF, List.mem_map] at h
  obtain ⟨j, _, rfl⟩ := h
  simp [rowF]
theorem scheme_both (P k n : Int) : ∃ (ls : List (List Int)) (b : Int), ls.length ≤ 1000 ∧ (∀ l ∈ ls, l.length ≤ 5000) ∧ (∀ w, Calls Try.prog 15 #[.int .i64 P, .int .i64 k, .int .i64 n] w (RowsPost ls b w)) ∧ (∀ w, Calls Try.prog 16 #[.int .i64 P, .int .i64 k, .int .i64 n] w (RowsPost ls b w)) := by
  cases h : argS P k n
  · exact ⟨[], 1, by simp, by simp, fun w => scheme_bad P k n w h, fun w => rscheme_bad P k n w h⟩
  · simp only [argS, machB, Bool.and_eq_true, decide_eq_true_eq] at h
    obtain ⟨Q, rfl⟩ : ∃ Q : Nat, P = (Q : Int) := ⟨P.toNat, by omega⟩
    obtain ⟨j, rfl⟩ : ∃ j : Nat, k = (j : Int) := ⟨k.toNat, by omega⟩
    obtain ⟨m, rfl⟩ : ∃ m : Nat, n = (m : Int) := ⟨n.toNat, by omega⟩
    by_cases hle : m ≤ pw Q j
    · refine ⟨schemeF Q j m, 0, by rw [schemeF_len]; omega, fun l hl => by rw [schemeF_mem hl]; omega, fun w => scheme_ok Q j m w ?_ ?_ ?_ ?_ ?_ hle, fun w => rscheme_ok Q j m w ?_ ?_ ?_ ?_ ?_ hle⟩ <;> omega
    · refine ⟨[], 140, by simp, by simp, fun w => scheme_few Q j m w ?_ ?_ ?_ ?_ ?_ ?_, fun w => rscheme_few Q j m w ?_ ?_ ?_ ?_ ?_ ?_⟩ <;> omega
/-- The arguments of a run, as memory holds them. -/
structure RunArgs (w : World) (s : List (List Int)) (d : List Int) (A B : Option Addr) : Prop where
  s : NumRows w w.heap.size A s
  d : Nums .i64 w w.heap.size B d
theorem RunArgs.keep {w w' : World} {s : List (List Int)} {d : List Int} {A B : Option Addr} (h : RunArgs w s d A B) (hk : Keeps w w') : RunArgs w' s d A B := ⟨h.s.keep hk, h.d.keep hk⟩
theorem run_both (P : Int) (s : List (List Int)) (d : List Int) (A B : Option Addr) (n c n' c' : Nat) (hn : s.length ≤ 1000) (hr : ∀ r ∈ s, r.length ≤ 5000) (hn' : d.length ≤ 5000) (hln : n = s.length) (hlm : n' = d.length) :
    ∃ (l : List Int) (b : Int), l.length ≤ 5000 ∧ (∀ w, RunArgs w s d A B → Calls Try.prog 17 #[.int .i64 P, .slice A n c, .slice B n' c'] w (RunPost l b w)) ∧ (∀ w, RunArgs w s d A B → Calls Try.prog 18 #[.int .i64 P, .slice A n c, .slice B n' c'] w (RunPost l b w)) := by
  cases h : okRun P s d
  · refine ⟨[], 1, by simp, fun w ha => ?_, fun w ha => ?_⟩
    · have := srun_any P s d A B n c n' c' w ha.s ha.d hn hr hn' hln hlm
      rw [if_neg (by simp [h])] at this; exact this
    · have := rrun_any P s d A B n c n' c' w ha.s ha.d hn hr hn' hln hlm
      rw [if_neg (by simp [h])] at this; exact this
  · refine ⟨runF P.toNat s d, 0, Nat.le_trans ?_ hn', fun w ha => ?_, fun w ha => ?_⟩
    · have := runK_le P.toNat s d s.length; rw [runK_all (Nat.le_refl _)] at this; exact this
    · have := srun_any P s d A B n c n' c' w ha.s ha.d hn hr hn' hln hlm
      rw [if_pos h] at this; exact this
    · have := rrun_any P s d A B n c n' c' w ha.s ha.d hn hr hn' hln hlm
      rw [if_pos h] at this; exact this
theorem passE_len (P : Int) (o p : List Int) : (passE P o p).length ≤ o.length := by
  unfold passE; split
  · exact passF_len_le _ _ _
  · simp
theorem few_spec {s : List (List Int)} (h : fewB s = true) : s.length ≤ 8 ∧ ∀ r ∈ s, r.length ≤ 300 := by
  simp only [fewB, Bool.and_eq_true, decide_eq_true_eq, List.all_eq_true] at h
  exact ⟨h.2, h.1⟩
theorem few_is (ls : List (List Int)) (A : Option Addr) (n c : Nat) (w : World) (hl : NumRows w w.heap.size A ls) (hn : n ≤ 9223372036854775807) (hln : Hid (n = ls.length)) (r : Bool) (hr : Hid (fewB ls = r)) :
    Calls Try.prog 12 #[.slice A n c] w (BoolPost r w) := few_any ls A n c w hl (by rw [← hln.out]; exact hn) hln.out r hr.out
theorem srows_refl (l : List (List Int)) : sameRows l l = true := by simp [sameRows]
theorem same_refl (l : List Int) : same l l = true := by simp [same]
set_option maxHeartbeats 4000000 in
set_option maxRecDepth 100000 in
theorem law_matches (P p n : Int) (l3 : List Int) (A3 : Option Addr) (c3 : Nat) (l4 : List Int) (A4 : Option Addr) (c4 : Nat) (s : List (List Int)) (A5 : Option Addr) (c5 : Nat) (l6 : List Int) (A6 : Option Addr) (c6 : Nat) (w : World)
    (o3 : Nums .i64 w w.heap.size A3 l3) (len3 : l3.length ≤ maxLen) (o4 : Nums .i64 w w.heap.size A4 l4) (len4 : l4.length ≤ maxLen) (o5 : NumRows w w.heap.size A5 s) (len5 : s.length ≤ maxLen) (o6 : Nums .i64 w w.heap.size A6 l6) (len6 : l6.length ≤ maxLen) :
    Calls Try.prog 3 #[.int .i64 P, .int .i64 p, .int .i64 n, .slice A3 l3.length c3, .slice A4 l4.length c4, .slice A5 s.length c5, .slice A6 l6.length c6] w (BoolPost true w) := by
  unfold maxLen at len3 len4 len5 len6
  obtain ⟨n3, hn3⟩ : ∃ n3, n3 = l3.length := ⟨_, rfl⟩
  obtain ⟨n4, hn4⟩ : ∃ n4, n4 = l4.length := ⟨_, rfl⟩
  obtain ⟨n5, hn5⟩ : ∃ n5, n5 = s.length := ⟨_, rfl⟩
  obtain ⟨n6, hn6⟩ : ∃ n6, n6 = l6.length := ⟨_, rfl⟩
  rw [← hn3] at len3 ⊢
  rw [← hn4] at len4 ⊢
  rw [← hn5] at len5 ⊢
  rw [← hn6] at len6 ⊢
  have HN3 := Lib.hid hn3; have HN4 := Lib.hid hn4; have HN5 := Lib.hid hn5; have HN6 := Lib.hid hn6
  have O3 := Lib.hid o3; have O4 := Lib.hid o4; have O5 := Lib.hid o5; have O6 := Lib.hid o6
  clear o3 o4 o5 o6 hn3 hn4 hn5 hn6
  by_cases t3 : 300 < n3
  · have t3' : decide (300 < n3) = true := by simpa using t3
    have t3'' : decide ((300 : Int) < (n3 : Int)) = true := by simp; omega
    go_enter Try.func3, Try.ntmps3
    go_wp2_with (go_at_call 11; (with_reducible refine (head_any _).mono ?_); rintro e w1 ⟨rfl, hk1⟩)
    go_ret
    exact bool_post rfl hk1
  have t3' : decide (300 < n3) = false := by simpa using t3
  have t3'' : decide ((300 : Int) < (n3 : Int)) = false := by simp; omega
  by_cases t4 : 300 < n4
  · have t4' : decide (300 < n4) = true := by simpa using t4
    have t4'' : decide ((300 : Int) < (n4 : Int)) = true := by simp; omega
    go_enter Try.func3, Try.ntmps3
    go_wp2_with (go_at_call 11; (with_reducible refine (head_any _).mono ?_); rintro e w1 ⟨rfl, hk1⟩)
    go_ret
    exact bool_post rfl hk1
  have t4' : decide (300 < n4) = false := by simpa using t4
  have t4'' : decide ((300 : Int) < (n4 : Int)) = false := by simp; omega
  by_cases t6 : 300 < n6
  · have t6' : decide (300 < n6) = true := by simpa using t6
    have t6'' : decide ((300 : Int) < (n6 : Int)) = true := by simp; omega
    go_enter Try.func3, Try.ntmps3
    go_wp2_with (go_at_call 11; (with_reducible refine (head_any _).mono ?_); rintro e w1 ⟨rfl, hk1⟩)
    go_ret
    exact bool_post rfl hk1
  have t6' : decide (300 < n6) = false := by simpa using t6
  have t6'' : decide ((300 : Int) < (n6 : Int)) = false := by simp; omega
  cases hf : fewB s
  · have HF := Lib.hid hf; clear hf
    go_enter Try.func3, Try.ntmps3
    go_wp2_with (first | (go_at_call 11; (with_reducible refine (head_any _).mono ?_); rintro e w1 ⟨rfl, hk1⟩) | (go_at_call 12; (with_reducible refine (few_is s A5 n5 c5 _ (O5.out.keep hk1) len5 HN5 false HF).mono ?_); rintro e w2 ⟨rfl, hk2⟩))
    go_ret
    exact bool_post rfl (hk1.trans hk2)
  · obtain ⟨f8, f300⟩ := few_spec hf
    obtain ⟨a, b, hp1, hp2⟩ := passes_both P n
    obtain ⟨ls, e1, hs1, hs2, hs3, hs4⟩ := scheme_both P p n
    have hl6 : l6.length ≤ 5000 := by rw [← HN6.out]; omega
    have hl3 : l3.length ≤ 5000 := by rw [← HN3.out]; omega
    have hl4 : l4.length ≤ 5000 := by rw [← HN4.out]; omega
    obtain ⟨rl, e2, hr0, hr1, hr2⟩ := run_both P s l6 A5 A6 n5 c5 n6 c6 (by omega) (fun r hr => by have := f300 r hr; omega) hl6 HN5.out HN6.out
    obtain ⟨pl, hpl⟩ : ∃ pl, passE P l3 l4 = pl := ⟨_, rfl⟩
    have hpll : pl.length ≤ 5000 := by rw [← hpl]; exact Nat.le_trans (passE_len _ _ _) hl3
    have HF := Lib.hid hf
    have HP1 := Lib.hid hp1; have HP2 := Lib.hid hp2; have HS3 := Lib.hid hs3; have HS4 := Lib.hid hs4; have HR1 := Lib.hid hr1; have HR2 := Lib.hid hr2; have HPL := Lib.hid hpl; have HS2 := Lib.hid hs2
    clear hf f8 f300 hp1 hp2 hs3 hs4 hr1 hr2 hpl hs2
    go_enter Try.func3, Try.ntmps3
    go_wp2_with (first | (go_at_call 11; (with_reducible refine (head_any _).mono ?_); rintro e w1 ⟨rfl, hk1⟩) | (go_at_call 12; (with_reducible refine (few_is s A5 n5 c5 _ (O5.out.keep hk1) len5 HN5 true HF).mono ?_); rintro e w2 ⟨rfl, hk2⟩) | (go_at_call 13; (with_reducible refine (HP1.out _).mono ?_); rintro e w3 ⟨rfl, hk3⟩) | (go_at_call 14; (with_reducible refine (HP2.out _).mono ?_); rintro e w4 ⟨rfl, hk4⟩))
    have K4 := Lib.hid (((hk1.trans hk2).trans hk3).trans hk4)
    clear hk1 hk2 hk3 hk4
    refine (HS3.out _).mono ?_
    rintro e w5 ⟨B1, d1, rfl, q1, hk5⟩
    have Q1 := Lib.hid q1; have K5 := Lib.hid (K4.out.trans hk5)
    clear q1 hk5 K4
    go_wp2_with fail
    refine (HS4.out _).mono ?_
    rintro e w6 ⟨B2, d2, rfl, q2, hk6⟩
    have Q1' := Lib.hid (Q1.out.keep hk6); have Q2 := Lib.hid q2; have K6 := Lib.hid (K5.out.trans hk6)
    clear q2 hk6 K5 Q1
    go_wp2_with fail
    refine (HR1.out _ ⟨O5.out.keep K6.out, O6.out.keep K6.out⟩).mono ?_
    rintro e w7 ⟨B3, d3, rfl, q3, hk7⟩
    have Q1 := Lib.hid (Q1'.out.keep hk7); have Q2' := Lib.hid (Q2.out.keep hk7); have Q3 := Lib.hid q3; have K7 := Lib.hid (K6.out.trans hk7)
    clear q3 hk7 K6 Q1' Q2
    go_wp2_with fail
    refine (HR2.out _ ⟨O5.out.keep K7.out, O6.out.keep K7.out⟩).mono ?_
    rintro e w8 ⟨B4, d4, rfl, q4, hk8⟩
    have Q1' := Lib.hid (Q1.out.keep hk8); have Q2 := Lib.hid (Q2'.out.keep hk8); have Q3' := Lib.hid (Q3.out.keep hk8); have Q4 := Lib.hid q4; have K8 := Lib.hid (K7.out.trans hk8)
    clear q4 hk8 K7 Q1 Q2' Q3
    go_wp2_with fail
    refine (rows_any ls ls B1 B2 _ d1 _ d2 _ Q1'.out Q2.out (by omega) (by omega) rfl rfl (fun l hl => by have := HS2.out l hl; omega) (fun l hl => by have := HS2.out l hl; omega) true (srows_refl ls)).mono ?_
    rintro e w9 ⟨rfl, hk9⟩
    have Q3 := Lib.hid (Q3'.out.keep hk9); have Q4' := Lib.hid (Q4.out.keep hk9); have K9 := Lib.hid (K8.out.trans hk9)
    clear hk9 K8 Q3' Q4 Q1' Q2
    go_wp2_with fail
    refine (spass_any P l3 l4 A3 A4 n3 c3 n4 c4 _ (O3.out.keep K9.out) (O4.out.keep K9.out) hl3 hl4 HN3.out HN4.out pl HPL.out).mono ?_
    rintro e w10 ⟨B5, d5, rfl, q5, hk10⟩
    have Q3' := Lib.hid (Q3.out.keep hk10); have Q4 := Lib.hid (Q4'.out.keep hk10); have Q5 := Lib.hid q5; have K10 := Lib.hid (K9.out.trans hk10)
    clear q5 hk10 K9 Q3 Q4'
    go_wp2_with fail
    refine (rpass_any P l3 l4 A3 A4 n3 c3 n4 c4 _ (O3.out.keep K10.out) (O4.out.keep K10.out) hl3 hl4 HN3.out HN4.out pl HPL.out).mono ?_
    rintro e w11 ⟨B6, d6, rfl, q6, hk11⟩
    have Q3 := Lib.hid (Q3'.out.keep hk11); have Q4' := Lib.hid (Q4.out.keep hk11); have Q5' := Lib.hid (Q5.out.keep hk11); have Q6 := Lib.hid q6; have K11 := Lib.hid (K10.out.trans hk11)
    clear q6 hk11 K10 Q3' Q4 Q5
    go_wp2_with fail
    refine (ints_any pl pl B5 B6 _ d5 _ d6 _ Q5'.out Q6.out (by omega) (by omega) rfl rfl true (same_refl pl)).mono ?_
    rintro e w12 ⟨rfl, hk12⟩
    have Q3' := Lib.hid (Q3.out.keep hk12); have Q4 := Lib.hid (Q4'.out.keep hk12); have K12 := Lib.hid (K11.out.trans hk12)
    clear hk12 K11 Q3 Q4' Q5' Q6
    go_wp2_with fail
    refine (ints_any rl rl B3 B4 _ d3 _ d4 _ Q3'.out Q4.out (by omega) (by omega) rfl rfl true (same_refl rl)).mono ?_
    rintro e w13 ⟨rfl, hk13⟩
    have K13 := Lib.hid (K12.out.trans hk13)
    clear hk13
    go_wp2_with fail
    go_ret
    exact bool_post rfl K13.out
end Go.Proofs.Ytkfcebojfnnieaa
