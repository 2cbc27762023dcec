/-
  The walks of the laws RecountAgreement, RecountTruth, RecountExchange, RecountFees, RecountTolerance: each returns true. Conditions: none.
-/
import Derived.Test.YtcpcnhlmpgcejaaA
import Derived.Test.YtcpcnhlmpgcejaaRows
import Derived.WalkKit
import Derived.WalkSpells
import Derived.WalkLawsBesides
import Derived.Laws.EntriesVeiled
import Derived.ProofKit
import Derived.OpenShut
import Derived.Lib.Hide
namespace Go.Proofs.Ytcpcnhlmpgcejaa
open Go.ChangeShapes Go.WideShapes Go.ChangeAt Go.RowKit
theorem dist_comm (a b : Int) : dist a b = dist b a := by unfold dist; split <;> split <;> omega
theorem dist_self (a : Int) : dist a a = 0 := by unfold dist; simp
theorem dist_le (a b : Int) : a - b ≤ dist a b ∧ b - a ≤ dist a b := by unfold dist; split <;> omega
theorem dist_cases (a b : Int) : (a ≤ b ∧ dist a b = b - a) ∨ (b ≤ a ∧ dist a b = a - b) := by unfold dist; split <;> omega
theorem farB_true {a b t : Int} (h : t < dist a b) : farB a b t = true := by simp [farB, h]
theorem farB_false {a b t : Int} (h : dist a b ≤ t) : farB a b t = false := by simp [farB]; omega
theorem farB_self {a t : Int} (h : 0 ≤ t) : farB a a t = false := farB_false (by rw [dist_self]; exact h)
theorem farB_comm (a b t : Int) : farB a b t = farB b a t := by unfold farB; rw [dist_comm]

set_option maxHeartbeats 1000000 in
theorem law_agreement (g t c d l : Int) (w : World) :
    Calls Try.prog 4 #[.int .i64 g, .int .i64 t, .int .i64 c, .int .i64 d, .int .i64 l] w (TruePost w) := by
  cases hg : cnt g
  · go_enter Try.func4, Try.ntmps4
    go_wp2_with (first | (go_at_call 9; refine (head_any _).mono ?_; rintro e w' ⟨rfl, hk⟩) | (go_at_call 14; refine (count_any _ _).mono ?_; rintro e w' ⟨rfl, rfl⟩))
    go_ret
    exact true_post hk
  cases ht : cnt t
  · go_enter Try.func4, Try.ntmps4
    go_wp2_with (first | (go_at_call 9; refine (head_any _).mono ?_; rintro e w' ⟨rfl, hk⟩) | (go_at_call 14; refine (count_any _ _).mono ?_; rintro e w' ⟨rfl, rfl⟩))
    go_ret
    exact true_post hk
  cases hc : cnt c
  · go_enter Try.func4, Try.ntmps4
    go_wp2_with (first | (go_at_call 9; refine (head_any _).mono ?_; rintro e w' ⟨rfl, hk⟩) | (go_at_call 14; refine (count_any _ _).mono ?_; rintro e w' ⟨rfl, rfl⟩))
    go_ret
    exact true_post hk
  cases hd : cnt d
  · go_enter Try.func4, Try.ntmps4
    go_wp2_with (first | (go_at_call 9; refine (head_any _).mono ?_; rintro e w' ⟨rfl, hk⟩) | (go_at_call 14; refine (count_any _ _).mono ?_; rintro e w' ⟨rfl, rfl⟩))
    go_ret
    exact true_post hk
  cases hl : cnt l
  · go_enter Try.func4, Try.ntmps4
    go_wp2_with (first | (go_at_call 9; refine (head_any _).mono ?_; rintro e w' ⟨rfl, hk⟩) | (go_at_call 14; refine (count_any _ _).mono ?_; rintro e w' ⟨rfl, rfl⟩))
    go_ret
    exact true_post hk
  obtain ⟨g0, g1⟩ := cnt_yes hg
  obtain ⟨t0, t1⟩ := cnt_yes ht
  by_cases h1 : l < g - t
  · go_enter Try.func4, Try.ntmps4
    go_wp2_with (first | (go_at_call 9; refine (head_any _).mono ?_; rintro e w' ⟨rfl, hk⟩) | (go_at_call 14; refine (count_any _ _).mono ?_; rintro e w' ⟨rfl, rfl⟩))
    go_ret
    exact true_post hk
  by_cases h2 : l < t - g
  · go_enter Try.func4, Try.ntmps4
    go_wp2_with (first | (go_at_call 9; refine (head_any _).mono ?_; rintro e w' ⟨rfl, hk⟩) | (go_at_call 14; refine (count_any _ _).mono ?_; rintro e w' ⟨rfl, rfl⟩))
    go_ret
    exact true_post hk
  have hf : farB g t l = false := farB_false (by have := dist_cases g t; omega)
  have e1 := settle_near hg ht hc hl hf
  have e2 := settle_near hg ht hd hl hf
  go_enter Try.func4, Try.ntmps4
  go_wp2_with (first | (go_at_call 9; refine (head_any _).mono ?_; rintro e w' ⟨rfl, hk⟩) | (go_at_call 14; refine (count_any _ _).mono ?_; rintro e w' ⟨rfl, rfl⟩) | (go_at_call 10; refine (settle_any _ _ _ _ _).mono ?_; rintro e w' ⟨rfl, rfl⟩))
  go_ret
  exact true_post hk

theorem settle_tr {c o l : Int} (hc : cnt c = true) (ho : cnt o = true) (hl : cnt l = true) (h : farB c o l = true) : settle c o c l = (c, 2, 0) ∧ settle o c c l = (c, 1, 0) := by
  have l0 := (cnt_yes hl).1
  have h' : farB o c l = true := by rw [farB_comm]; exact h
  exact ⟨settle_far false true hc ho hc hl h (farB_self l0) h', settle_far true false ho hc hc hl h' h' (farB_self l0)⟩
theorem half_le (n : Int) (_h : 0 ≤ n) : ¬ (n + 1) / 2 < n - n / 2 ∧ ¬ (n + 1) / 2 < n / 2 := by omega
set_option maxHeartbeats 1000000 in
theorem law_truth (c o l f : Int) (w : World) :
    Calls Try.prog 5 #[.int .i64 c, .int .i64 o, .int .i64 l, .int .i64 f] w (TruePost w) := by
  cases hc : cnt c
  · go_enter Try.func5, Try.ntmps5
    go_wp2_with (first | (go_at_call 9; refine (head_any _).mono ?_; rintro e w' ⟨rfl, hk⟩) | (go_at_call 14; refine (count_any _ _).mono ?_; rintro e w' ⟨rfl, rfl⟩))
    go_ret
    exact true_post hk
  cases ho : cnt o
  · go_enter Try.func5, Try.ntmps5
    go_wp2_with (first | (go_at_call 9; refine (head_any _).mono ?_; rintro e w' ⟨rfl, hk⟩) | (go_at_call 14; refine (count_any _ _).mono ?_; rintro e w' ⟨rfl, rfl⟩))
    go_ret
    exact true_post hk
  cases hl : cnt l
  · go_enter Try.func5, Try.ntmps5
    go_wp2_with (first | (go_at_call 9; refine (head_any _).mono ?_; rintro e w' ⟨rfl, hk⟩) | (go_at_call 14; refine (count_any _ _).mono ?_; rintro e w' ⟨rfl, rfl⟩))
    go_ret
    exact true_post hk
  cases hf : cnt f
  · go_enter Try.func5, Try.ntmps5
    go_wp2_with (first | (go_at_call 9; refine (head_any _).mono ?_; rintro e w' ⟨rfl, hk⟩) | (go_at_call 14; refine (count_any _ _).mono ?_; rintro e w' ⟨rfl, rfl⟩))
    go_ret
    exact true_post hk
  obtain ⟨f0, f1⟩ := cnt_yes hf
  obtain ⟨b1, b2⟩ := half_le f f0
  cases hr : farB c o l
  · have e1 := settle_near hc ho hc hl hr
    have e2 : settle o c c l = (o, 0, 0) := settle_near ho hc hc hl (by rw [farB_comm]; exact hr)
    have e3 := fees_0 hf
    go_enter Try.func5, Try.ntmps5
    go_wp2_with (first | (go_at_call 9; refine (head_any _).mono ?_; rintro e w' ⟨rfl, hk⟩) | (go_at_call 14; refine (count_any _ _).mono ?_; rintro e w' ⟨rfl, rfl⟩) | (go_at_call 10; refine (settle_any _ _ _ _ _).mono ?_; rintro e w' ⟨rfl, rfl⟩) | (go_at_call 12; refine (fees_any _ _ _).mono ?_; first | (have _t := hk2; rintro e w' ⟨rfl, hk3⟩) | rintro e w' ⟨rfl, hk2⟩))
    go_ret
    exact true_post ((hk.trans hk2).trans hk3)
  · obtain ⟨e1, e2⟩ := settle_tr hc ho hl hr
    have e3 := fees_1 hf
    have e4 := fees_2 hf
    have b3 : ¬ (f + 1) / 2 < 0 := by omega
    go_enter Try.func5, Try.ntmps5
    go_wp2_with (first | (go_at_call 9; refine (head_any _).mono ?_; rintro e w' ⟨rfl, hk⟩) | (go_at_call 14; refine (count_any _ _).mono ?_; rintro e w' ⟨rfl, rfl⟩) | (go_at_call 10; refine (settle_any _ _ _ _ _).mono ?_; rintro e w' ⟨rfl, rfl⟩) | (go_at_call 12; refine (fees_any _ _ _).mono ?_; first | (have _t := hk2; rintro e w' ⟨rfl, hk3⟩) | rintro e w' ⟨rfl, hk2⟩))
    go_ret
    exact true_post ((hk.trans hk2).trans hk3)

theorem settle_swap {g t c l : Int} (hg : cnt g = true) (ht : cnt t = true) (hc : cnt c = true) (hl : cnt l = true) (hf : farB g t l = true) (a b : Bool) (ha : farB g c l = a) (hb : farB t c l = b) :
    settle g t c l = (c, (if a then 1 else 0) + (if b then 2 else 0), 0) ∧ settle t g c l = (c, (if b then 1 else 0) + (if a then 2 else 0), 0) :=
  ⟨settle_far a b hg ht hc hl hf ha hb, settle_far b a ht hg hc hl (by rw [farB_comm]; exact hf) hb ha⟩
set_option maxHeartbeats 1000000 in
theorem law_exchange (g t c l : Int) (w : World) :
    Calls Try.prog 6 #[.int .i64 g, .int .i64 t, .int .i64 c, .int .i64 l] w (TruePost w) := by
  cases hg : cnt g
  · have e1 : settle g t c l = (0, 0, 1) := settle_bad (.inl hg)
    have e2 : settle t g c l = (0, 0, 1) := settle_bad (.inr (.inl hg))
    go_enter Try.func6, Try.ntmps6
    go_wp2_with (first | (go_at_call 9; refine (head_any _).mono ?_; rintro e w' ⟨rfl, hk⟩) | (go_at_call 14; refine (count_any _ _).mono ?_; rintro e w' ⟨rfl, rfl⟩) | (go_at_call 10; refine (settle_any _ _ _ _ _).mono ?_; rintro e w' ⟨rfl, rfl⟩))
    go_ret
    exact true_post hk
  cases ht : cnt t
  · have e1 : settle g t c l = (0, 0, 1) := settle_bad (.inr (.inl ht))
    have e2 : settle t g c l = (0, 0, 1) := settle_bad (.inl ht)
    go_enter Try.func6, Try.ntmps6
    go_wp2_with (first | (go_at_call 9; refine (head_any _).mono ?_; rintro e w' ⟨rfl, hk⟩) | (go_at_call 14; refine (count_any _ _).mono ?_; rintro e w' ⟨rfl, rfl⟩) | (go_at_call 10; refine (settle_any _ _ _ _ _).mono ?_; rintro e w' ⟨rfl, rfl⟩))
    go_ret
    exact true_post hk
  cases hc : cnt c
  · have e1 : settle g t c l = (0, 0, 1) := settle_bad (.inr (.inr (.inl hc)))
    have e2 : settle t g c l = (0, 0, 1) := settle_bad (.inr (.inr (.inl hc)))
    go_enter Try.func6, Try.ntmps6
    go_wp2_with (first | (go_at_call 9; refine (head_any _).mono ?_; rintro e w' ⟨rfl, hk⟩) | (go_at_call 14; refine (count_any _ _).mono ?_; rintro e w' ⟨rfl, rfl⟩) | (go_at_call 10; refine (settle_any _ _ _ _ _).mono ?_; rintro e w' ⟨rfl, rfl⟩))
    go_ret
    exact true_post hk
  cases hl : cnt l
  · have e1 : settle g t c l = (0, 0, 1) := settle_bad (.inr (.inr (.inr hl)))
    have e2 : settle t g c l = (0, 0, 1) := settle_bad (.inr (.inr (.inr hl)))
    go_enter Try.func6, Try.ntmps6
    go_wp2_with (first | (go_at_call 9; refine (head_any _).mono ?_; rintro e w' ⟨rfl, hk⟩) | (go_at_call 14; refine (count_any _ _).mono ?_; rintro e w' ⟨rfl, rfl⟩) | (go_at_call 10; refine (settle_any _ _ _ _ _).mono ?_; rintro e w' ⟨rfl, rfl⟩))
    go_ret
    exact true_post hk
  obtain ⟨g0, g1⟩ := cnt_yes hg
  obtain ⟨t0, t1⟩ := cnt_yes ht
  cases hf : farB g t l
  · have e1 := settle_near hg ht hc hl hf
    have e2 : settle t g c l = (t, 0, 0) := settle_near ht hg hc hl (by rw [farB_comm]; exact hf)
    have hd : dist g t ≤ l := by simpa [farB] using hf
    obtain ⟨d1, d2⟩ := dist_le g t
    have d3 : g - t ≤ l := by omega
    have d4 : t - g ≤ l := by omega
    clear hd d1 d2
    go_enter Try.func6, Try.ntmps6
    go_wp2_with (first | (go_at_call 9; refine (head_any _).mono ?_; rintro e w' ⟨rfl, hk⟩) | (go_at_call 14; refine (count_any _ _).mono ?_; rintro e w' ⟨rfl, rfl⟩) | (go_at_call 10; refine (settle_any _ _ _ _ _).mono ?_; rintro e w' ⟨rfl, rfl⟩))
    all_goals
      go_ret
      exact true_post hk
  · cases ha : farB g c l <;> cases hb : farB t c l
    all_goals
      obtain ⟨e1, e2⟩ := settle_swap hg ht hc hl hf _ _ ha hb
      go_enter Try.func6, Try.ntmps6
      go_wp2_with (first | (go_at_call 9; refine (head_any _).mono ?_; rintro e w' ⟨rfl, hk⟩) | (go_at_call 14; refine (count_any _ _).mono ?_; rintro e w' ⟨rfl, rfl⟩) | (go_at_call 10; refine (settle_any _ _ _ _ _).mono ?_; rintro e w' ⟨rfl, rfl⟩))
      go_ret
      exact true_post hk

theorem mod4 (a : Int) : a % 4 = 0 ∨ a % 4 = 1 ∨ a % 4 = 2 ∨ a % 4 = 3 := by omega
theorem halves (f : Int) : f - f / 2 + f / 2 = f := by omega
set_option maxHeartbeats 1000000 in
theorem law_fees (a f : Int) (h0 : 0 ≤ a) (h1 : a ≤ 255) (w : World) :
    Calls Try.prog 7 #[.int .u8 a, .int .i64 f] w (TruePost w) := by
  cases hf : cnt f
  · go_enter Try.func7, Try.ntmps7
    go_wp2_with (first | (go_at_call 9; refine (head_any _).mono ?_; rintro e w' ⟨rfl, hk⟩) | (go_at_call 14; refine (count_any _ _).mono ?_; rintro e w' ⟨rfl, rfl⟩) | (go_at_call 10; refine (settle_any _ _ _ _ _).mono ?_; rintro e w' ⟨rfl, rfl⟩))
    go_ret
    exact true_post hk
  obtain ⟨f0, f1⟩ := cnt_yes hf
  have f2 : 0 ≤ f - f / 2 := by omega
  have f3 : 0 ≤ f / 2 := by omega
  have f4 := halves f
  rcases mod4 a with hr | hr | hr | hr
  · have e1 := fees_0 hf
    go_enter Try.func7, Try.ntmps7
    go_wp2_with (first | (go_at_call 9; refine (head_any _).mono ?_; rintro e w' ⟨rfl, hk⟩) | (go_at_call 14; refine (count_any _ _).mono ?_; rintro e w' ⟨rfl, rfl⟩) | (go_at_call 10; refine (settle_any _ _ _ _ _).mono ?_; rintro e w' ⟨rfl, rfl⟩) | (go_at_call 12; refine (fees_any _ _ _).mono ?_; rintro e w' ⟨rfl, hk2⟩))
    go_ret
    exact true_post (hk.trans hk2)
  · have e1 := fees_1 hf
    go_enter Try.func7, Try.ntmps7
    go_wp2_with (first | (go_at_call 9; refine (head_any _).mono ?_; rintro e w' ⟨rfl, hk⟩) | (go_at_call 14; refine (count_any _ _).mono ?_; rintro e w' ⟨rfl, rfl⟩) | (go_at_call 10; refine (settle_any _ _ _ _ _).mono ?_; rintro e w' ⟨rfl, rfl⟩) | (go_at_call 12; refine (fees_any _ _ _).mono ?_; rintro e w' ⟨rfl, hk2⟩))
    go_ret
    exact true_post (hk.trans hk2)
  · have e1 := fees_2 hf
    go_enter Try.func7, Try.ntmps7
    go_wp2_with (first | (go_at_call 9; refine (head_any _).mono ?_; rintro e w' ⟨rfl, hk⟩) | (go_at_call 14; refine (count_any _ _).mono ?_; rintro e w' ⟨rfl, rfl⟩) | (go_at_call 10; refine (settle_any _ _ _ _ _).mono ?_; rintro e w' ⟨rfl, rfl⟩) | (go_at_call 12; refine (fees_any _ _ _).mono ?_; rintro e w' ⟨rfl, hk2⟩))
    go_ret
    exact true_post (hk.trans hk2)
  · have e1 := fees_3 hf
    go_enter Try.func7, Try.ntmps7
    go_wp2_with (first | (go_at_call 9; refine (head_any _).mono ?_; rintro e w' ⟨rfl, hk⟩) | (go_at_call 14; refine (count_any _ _).mono ?_; rintro e w' ⟨rfl, rfl⟩) | (go_at_call 10; refine (settle_any _ _ _ _ _).mono ?_; rintro e w' ⟨rfl, rfl⟩) | (go_at_call 12; refine (fees_any _ _ _).mono ?_; rintro e w' ⟨rfl, hk2⟩))
    go_ret
    exact true_post (hk.trans hk2)

theorem far_mono {a b l m : Int} (h : l ≤ m) (hf : farB a b l = false) : farB a b m = false := by simp [farB] at *; omega
theorem far_tri {a b c l : Int} (h1 : farB a c l = false) (h2 : farB b c l = false) : a - b ≤ 2 * l ∧ b - a ≤ 2 * l := by
  simp [farB] at h1 h2
  have := dist_le a c
  have := dist_le b c
  omega
theorem far_two {a b l : Int} (h0 : 0 ≤ l) (h1 : farB a b l = false) : a - b ≤ 2 * l ∧ b - a ≤ 2 * l := by
  simp [farB] at h1
  have := dist_le a b
  omega
set_option maxHeartbeats 1000000 in
theorem law_tolerance_far (g t c l m : Int) (hg : cnt g = true) (ht : cnt t = true) (hc : cnt c = true) (hl : cnt l = true) (hm : cnt m = true) (hlm : l ≤ m) (hf : farB g t l = true) (ha : farB g c l = true) (hb : farB t c l = true) (w : World) :
    Calls Try.prog 8 #[.int .i64 g, .int .i64 t, .int .i64 c, .int .i64 l, .int .i64 m] w (TruePost w) := by
  have hml : ¬ m < l := by omega
  obtain ⟨g0, g1⟩ := cnt_yes hg
  obtain ⟨t0, t1⟩ := cnt_yes ht
  obtain ⟨l0, l1⟩ := cnt_yes hl
  · have e1 := settle_far _ _ hg ht hc hl hf ha hb
    cases hf2 : farB g t m
    · have e2 := settle_near hg ht hc hm hf2
      go_enter Try.func8, Try.ntmps8
      go_wp2_with (first | (go_at_call 9; refine (head_any _).mono ?_; rintro e w' ⟨rfl, hk⟩) | (go_at_call 14; refine (count_any _ _).mono ?_; rintro e w' ⟨rfl, rfl⟩) | (go_at_call 10; refine (settle_any _ _ _ _ _).mono ?_; rintro e w' ⟨rfl, rfl⟩))
      all_goals
        go_ret
        exact true_post hk
    · have key : ∃ x y : Bool, farB g c m = x ∧ farB t c m = y := ⟨_, _, rfl, rfl⟩
      obtain ⟨x, y, hx, hy⟩ := key
      cases x <;> cases y
      all_goals
        have e2 := settle_far _ _ hg ht hc hm hf2 hx hy
        go_enter Try.func8, Try.ntmps8
        go_wp2_with (first | (go_at_call 9; refine (head_any _).mono ?_; rintro e w' ⟨rfl, hk⟩) | (go_at_call 14; refine (count_any _ _).mono ?_; rintro e w' ⟨rfl, rfl⟩) | (go_at_call 10; refine (settle_any _ _ _ _ _).mono ?_; rintro e w' ⟨rfl, rfl⟩))
        all_goals
          go_ret
          exact true_post hk
set_option maxHeartbeats 1000000 in
theorem law_tolerance (g t c l m : Int) (w : World) :
    Calls Try.prog 8 #[.int .i64 g, .int .i64 t, .int .i64 c, .int .i64 l, .int .i64 m] w (TruePost w) := by
  cases hg : cnt g
  · go_enter Try.func8, Try.ntmps8
    go_wp2_with (first | (go_at_call 9; refine (head_any _).mono ?_; rintro e w' ⟨rfl, hk⟩) | (go_at_call 14; refine (count_any _ _).mono ?_; rintro e w' ⟨rfl, rfl⟩) | (go_at_call 10; refine (settle_any _ _ _ _ _).mono ?_; rintro e w' ⟨rfl, rfl⟩))
    go_ret
    exact true_post hk
  cases ht : cnt t
  · go_enter Try.func8, Try.ntmps8
    go_wp2_with (first | (go_at_call 9; refine (head_any _).mono ?_; rintro e w' ⟨rfl, hk⟩) | (go_at_call 14; refine (count_any _ _).mono ?_; rintro e w' ⟨rfl, rfl⟩) | (go_at_call 10; refine (settle_any _ _ _ _ _).mono ?_; rintro e w' ⟨rfl, rfl⟩))
    go_ret
    exact true_post hk
  cases hc : cnt c
  · go_enter Try.func8, Try.ntmps8
    go_wp2_with (first | (go_at_call 9; refine (head_any _).mono ?_; rintro e w' ⟨rfl, hk⟩) | (go_at_call 14; refine (count_any _ _).mono ?_; rintro e w' ⟨rfl, rfl⟩) | (go_at_call 10; refine (settle_any _ _ _ _ _).mono ?_; rintro e w' ⟨rfl, rfl⟩))
    go_ret
    exact true_post hk
  cases hl : cnt l
  · go_enter Try.func8, Try.ntmps8
    go_wp2_with (first | (go_at_call 9; refine (head_any _).mono ?_; rintro e w' ⟨rfl, hk⟩) | (go_at_call 14; refine (count_any _ _).mono ?_; rintro e w' ⟨rfl, rfl⟩) | (go_at_call 10; refine (settle_any _ _ _ _ _).mono ?_; rintro e w' ⟨rfl, rfl⟩))
    go_ret
    exact true_post hk
  cases hm : cnt m
  · go_enter Try.func8, Try.ntmps8
    go_wp2_with (first | (go_at_call 9; refine (head_any _).mono ?_; rintro e w' ⟨rfl, hk⟩) | (go_at_call 14; refine (count_any _ _).mono ?_; rintro e w' ⟨rfl, rfl⟩) | (go_at_call 10; refine (settle_any _ _ _ _ _).mono ?_; rintro e w' ⟨rfl, rfl⟩))
    go_ret
    exact true_post hk
  by_cases hml : m < l
  · go_enter Try.func8, Try.ntmps8
    go_wp2_with (first | (go_at_call 9; refine (head_any _).mono ?_; rintro e w' ⟨rfl, hk⟩) | (go_at_call 14; refine (count_any _ _).mono ?_; rintro e w' ⟨rfl, rfl⟩) | (go_at_call 10; refine (settle_any _ _ _ _ _).mono ?_; rintro e w' ⟨rfl, rfl⟩))
    go_ret
    exact true_post hk
  have hlm : l ≤ m := by omega
  obtain ⟨g0, g1⟩ := cnt_yes hg
  obtain ⟨t0, t1⟩ := cnt_yes ht
  obtain ⟨l0, l1⟩ := cnt_yes hl
  cases hf : farB g t l
  · have e1 := settle_near hg ht hc hl hf
    have e2 := settle_near hg ht hc hm (far_mono hlm hf)
    obtain ⟨d1, d2⟩ := far_two l0 hf
    go_enter Try.func8, Try.ntmps8
    go_wp2_with (first | (go_at_call 9; refine (head_any _).mono ?_; rintro e w' ⟨rfl, hk⟩) | (go_at_call 14; refine (count_any _ _).mono ?_; rintro e w' ⟨rfl, rfl⟩) | (go_at_call 10; refine (settle_any _ _ _ _ _).mono ?_; rintro e w' ⟨rfl, rfl⟩))
    go_ret
    exact true_post hk
  cases ha : farB g c l <;> cases hb : farB t c l
  · obtain ⟨d1, d2⟩ := far_tri ha hb
    have e1 := settle_far _ _ hg ht hc hl hf ha hb
    cases hf2 : farB g t m
    · have e2 := settle_near hg ht hc hm hf2
      go_enter Try.func8, Try.ntmps8
      go_wp2_with (first | (go_at_call 9; refine (head_any _).mono ?_; rintro e w' ⟨rfl, hk⟩) | (go_at_call 14; refine (count_any _ _).mono ?_; rintro e w' ⟨rfl, rfl⟩) | (go_at_call 10; refine (settle_any _ _ _ _ _).mono ?_; rintro e w' ⟨rfl, rfl⟩))
      go_ret
      exact true_post hk
    · have e2 := settle_far _ _ hg ht hc hm hf2 (far_mono hlm ha) (far_mono hlm hb)
      go_enter Try.func8, Try.ntmps8
      go_wp2_with (first | (go_at_call 9; refine (head_any _).mono ?_; rintro e w' ⟨rfl, hk⟩) | (go_at_call 14; refine (count_any _ _).mono ?_; rintro e w' ⟨rfl, rfl⟩) | (go_at_call 10; refine (settle_any _ _ _ _ _).mono ?_; rintro e w' ⟨rfl, rfl⟩))
      go_ret
      exact true_post hk
  · have e1 := settle_far _ _ hg ht hc hl hf ha hb
    cases hf2 : farB g t m
    · have e2 := settle_near hg ht hc hm hf2
      go_enter Try.func8, Try.ntmps8
      go_wp2_with (first | (go_at_call 9; refine (head_any _).mono ?_; rintro e w' ⟨rfl, hk⟩) | (go_at_call 14; refine (count_any _ _).mono ?_; rintro e w' ⟨rfl, rfl⟩) | (go_at_call 10; refine (settle_any _ _ _ _ _).mono ?_; rintro e w' ⟨rfl, rfl⟩))
      all_goals
        go_ret
        exact true_post hk
    · have key : ∃ x y : Bool, farB g c m = x ∧ farB t c m = y ∧ x = false := ⟨_, _, rfl, rfl, far_mono hlm ha⟩
      obtain ⟨x, y, hx, hy, rfl⟩ := key
      cases y
      all_goals
        have e2 := settle_far _ _ hg ht hc hm hf2 hx hy
        go_enter Try.func8, Try.ntmps8
        go_wp2_with (first | (go_at_call 9; refine (head_any _).mono ?_; rintro e w' ⟨rfl, hk⟩) | (go_at_call 14; refine (count_any _ _).mono ?_; rintro e w' ⟨rfl, rfl⟩) | (go_at_call 10; refine (settle_any _ _ _ _ _).mono ?_; rintro e w' ⟨rfl, rfl⟩))
        all_goals
          go_ret
          exact true_post hk
  · have e1 := settle_far _ _ hg ht hc hl hf ha hb
    cases hf2 : farB g t m
    · have e2 := settle_near hg ht hc hm hf2
      go_enter Try.func8, Try.ntmps8
      go_wp2_with (first | (go_at_call 9; refine (head_any _).mono ?_; rintro e w' ⟨rfl, hk⟩) | (go_at_call 14; refine (count_any _ _).mono ?_; rintro e w' ⟨rfl, rfl⟩) | (go_at_call 10; refine (settle_any _ _ _ _ _).mono ?_; rintro e w' ⟨rfl, rfl⟩))
      all_goals
        go_ret
        exact true_post hk
    · have key : ∃ x y : Bool, farB g c m = x ∧ farB t c m = y ∧ y = false := ⟨_, _, rfl, rfl, far_mono hlm hb⟩
      obtain ⟨x, y, hx, hy, rfl⟩ := key
      cases x
      all_goals
        have e2 := settle_far _ _ hg ht hc hm hf2 hx hy
        go_enter Try.func8, Try.ntmps8
        go_wp2_with (first | (go_at_call 9; refine (head_any _).mono ?_; rintro e w' ⟨rfl, hk⟩) | (go_at_call 14; refine (count_any _ _).mono ?_; rintro e w' ⟨rfl, rfl⟩) | (go_at_call 10; refine (settle_any _ _ _ _ _).mono ?_; rintro e w' ⟨rfl, rfl⟩))
        all_goals
          go_ret
          exact true_post hk
  · exact law_tolerance_far g t c l m hg ht hc hl hm hlm hf ha hb w
end Go.Proofs.Ytcpcnhlmpgcejaa
