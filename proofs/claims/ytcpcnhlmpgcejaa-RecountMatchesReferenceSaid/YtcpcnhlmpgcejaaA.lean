/-
  What the functions of packages recount and postilionref37 return (contracts), and that 'head' is true: helper theorems for the laws of layer 37. Conditions: none.
-/
import Derived.Test.YtcpcnhlmpgcejaaRows
import Derived.WalkKit
import Derived.WalkSpells
import Derived.WalkLawsBesides
import Derived.Laws.EntriesVeiled
import Derived.ProofKit
import Derived.OpenShut
import Derived.Lib.Hide
namespace Go.Proofs.Ytcpcnhlmpgcejaa
open Go.ChangeShapes Go.WideShapes Go.ChangeAt Go.RowKit
/-- Nothing that was there has turned. -/
def Keeps (w w' : World) : Prop := Below w.heap.size w w'
theorem Keeps.refl (w : World) : Keeps w w := Below.refl _ _
theorem Keeps.trans {a b c : World} (h : Keeps a b) (k : Keeps b c) : Keeps a c := Below.trans h (Below.mono k (Below.size h))
theorem Keeps.alloc {a b : World} (h : Keeps a b) (o : Obj) : Keeps a (b.alloc o) := Below.alloc h (Below.size h) o
theorem Keeps.drew {a b : World} (h : Keeps a b) : Keeps a b.drew := Below.drew h
def cnt (n : Int) : Bool := decide (0 ≤ n) && decide (n ≤ 1000000)
theorem cnt_yes {n : Int} (h : cnt n = true) : 0 ≤ n ∧ n ≤ 1000000 := by simpa [cnt] using h
theorem cnt_no {n : Int} (h : cnt n = false) : n < 0 ∨ 1000000 < n := by simp [cnt] at h; omega
theorem cnt_mk {n : Int} (h : 0 ≤ n ∧ n ≤ 1000000) : cnt n = true := by simpa [cnt] using h

theorem ret_bool {a b : Bool} (h : a = b) : Ending.returned (.bool a) = .returned (.bool b) := by rw [h]

theorem count_any (n : Int) (w : World) :
    Calls Try.prog 14 #[.int .i64 n] w fun e w' => e = .returned (.bool (cnt n)) ∧ w = w' := by
  by_cases h0 : 0 ≤ n
  · by_cases h1 : n ≤ 1000000
    · have e : cnt n = true := cnt_mk ⟨h0, h1⟩
      rw [e]; clear e
      go_enter Try.func14, Try.ntmps14
      go_wp2
      go_ret
      exact ⟨rfl, rfl⟩
    · have e : cnt n = false := by simp [cnt]; omega
      have h2 : decide (n ≤ 1000000) = false := by simp; omega
      rw [e]; clear e
      go_enter Try.func14, Try.ntmps14
      go_wp2
      go_ret
      exact ⟨rfl, rfl⟩
  · have e : cnt n = false := by simp [cnt]; omega
    rw [e]; clear e
    go_enter Try.func14, Try.ntmps14
    go_wp2
    go_ret
    exact ⟨rfl, rfl⟩
theorem iscount_any (n : Int) (w : World) :
    Calls Try.prog 15 #[.int .i64 n] w fun e w' => e = .returned (.bool (cnt n)) ∧ w = w' := by
  by_cases h0 : 0 ≤ n
  · by_cases h1 : n ≤ 1000000
    · have e : cnt n = true := cnt_mk ⟨h0, h1⟩
      rw [e]; clear e
      go_enter Try.func15, Try.ntmps15
      go_wp2
      go_ret
      exact ⟨rfl, rfl⟩
    · have e : cnt n = false := by simp [cnt]; omega
      have h2 : decide (n ≤ 1000000) = false := by simp; omega
      rw [e]; clear e
      go_enter Try.func15, Try.ntmps15
      go_wp2
      go_ret
      exact ⟨rfl, rfl⟩
  · have e : cnt n = false := by simp [cnt]; omega
    rw [e]; clear e
    go_enter Try.func15, Try.ntmps15
    go_wp2
    go_ret
    exact ⟨rfl, rfl⟩
def dist (a b : Int) : Int := if a < b then b - a else a - b
def farB (a b t : Int) : Bool := decide (t < dist a b)
theorem far_any (a b t : Int) (ha : 0 ≤ a ∧ a ≤ 1000000) (hb : 0 ≤ b ∧ b ≤ 1000000) (w : World) :
    Calls Try.prog 16 #[.int .i64 a, .int .i64 b, .int .i64 t] w fun e w' => e = .returned (.bool (farB a b t)) ∧ w = w' := by
  obtain ⟨a0, a1⟩ := ha
  obtain ⟨b0, b1⟩ := hb
  rcases Int.lt_trichotomy a b with h | rfl | h
  · have e : farB a b t = decide (t < b - a) := by simp [farB, dist, h]
    rw [e]; clear e
    go_enter Try.func16, Try.ntmps16
    go_wp2
    go_ret
    exact ⟨rfl, rfl⟩
  · have e : farB a a t = decide (t < 0) := by simp [farB, dist]
    rw [e]; clear e
    go_enter Try.func16, Try.ntmps16
    go_wp2
    go_ret
    exact ⟨rfl, rfl⟩
  · have e : farB a b t = decide (t < a - b) := by
      have : dist a b = a - b := by unfold dist; rw [if_neg (by omega)]
      simp only [farB, this]
    rw [e]; clear e
    go_enter Try.func16, Try.ntmps16
    go_wp2
    go_ret
    exact ⟨rfl, rfl⟩
theorem apart_any (a b : Int) (ha : 0 ≤ a ∧ a ≤ 1000000) (hb : 0 ≤ b ∧ b ≤ 1000000) (w : World) :
    Calls Try.prog 17 #[.int .i64 a, .int .i64 b] w fun e w' => e = .returned (.int .i64 (dist a b)) ∧ w = w' := by
  obtain ⟨a0, a1⟩ := ha
  obtain ⟨b0, b1⟩ := hb
  by_cases h : a < b
  · have e : dist a b = b - a := by simp [dist, h]
    rw [e]; clear e
    go_enter Try.func17, Try.ntmps17
    go_wp2
    go_ret
    exact ⟨rfl, rfl⟩
  · have e : dist a b = a - b := by simp [dist, h]
    rw [e]; clear e
    go_enter Try.func17, Try.ntmps17
    go_wp2
    go_ret
    exact ⟨rfl, rfl⟩
def settle (g t c tol : Int) : Int × Int × Int :=
  if cnt g && cnt t && cnt c && cnt tol then
    if farB g t tol then (c, (if farB g c tol then 1 else 0) + (if farB t c tol then 2 else 0), 0) else (g, 0, 0)
  else (0, 0, 1)
theorem settle_bad {g t c tol : Int} (h : cnt g = false ∨ cnt t = false ∨ cnt c = false ∨ cnt tol = false) : settle g t c tol = (0, 0, 1) := by
  unfold settle; rw [if_neg]; rcases h with h | h | h | h <;> simp [h]
theorem ret3 {a a' b b' c c' : Int} (h : (a, b, c) = (a', b', c')) : Ending.returned (.tuple #[.int .i64 a, .int .i64 b, .int .i64 c]) = .returned (.tuple #[.int .i64 a', .int .i64 b', .int .i64 c']) := by
  simp only [Prod.mk.injEq] at h; obtain ⟨rfl, rfl, rfl⟩ := h; rfl

def SettlePost (g t c tol : Int) (w : World) (e : Ending) (w' : World) : Prop :=
  e = .returned (.tuple #[.int .i64 (settle g t c tol).1, .int .i64 (settle g t c tol).2.1, .int .i64 (settle g t c tol).2.2]) ∧ w = w'

theorem settle_near {g t c tol : Int} (hg : cnt g = true) (ht : cnt t = true) (hc : cnt c = true) (hl : cnt tol = true) (hf : farB g t tol = false) : settle g t c tol = (g, 0, 0) := by
  unfold settle; simp [hg, ht, hc, hl, hf]
theorem settle_far {g t c tol : Int} (a b : Bool) (hg : cnt g = true) (ht : cnt t = true) (hc : cnt c = true) (hl : cnt tol = true) (hf : farB g t tol = true) (ha : farB g c tol = a) (hb : farB t c tol = b) :
    settle g t c tol = (c, (if a then 1 else 0) + (if b then 2 else 0), 0) := by
  unfold settle; simp [hg, ht, hc, hl, hf, ha, hb]
theorem farB_dist {a b t : Int} {x : Bool} (h : farB a b t = x) : decide (t < dist a b) = x := h
theorem farB_near {a b t : Int} {x : Bool} (h : farB a b t = x) : decide (dist a b ≤ t) = !x := by
  subst h; unfold farB; by_cases h : t < dist a b <;> simp [h] <;> omega

theorem settle_post {g t c tol a b d : Int} {w : World} (h : settle g t c tol = (a, b, d)) : SettlePost g t c tol w (.returned (.tuple #[.int .i64 a, .int .i64 b, .int .i64 d])) w :=
  ⟨by rw [h], rfl⟩

set_option maxHeartbeats 400000 in
theorem refsettle_any (g t c tol : Int) (w : World) :
    Calls Try.prog 11 #[.int .i64 g, .int .i64 t, .int .i64 c, .int .i64 tol] w (SettlePost g t c tol w) := by
  cases hg : cnt g
  · have e := settle_bad (t := t) (c := c) (tol := tol) (.inl hg)
    unfold SettlePost; rw [e]; clear e
    go_enter Try.func11, Try.ntmps11
    go_wp2_with (go_at_call 14; refine (count_any _ _).mono ?_; rintro e w' ⟨rfl, rfl⟩)
    go_ret3
    exact ⟨rfl, rfl⟩
  cases ht : cnt t
  · have e := settle_bad (g := g) (c := c) (tol := tol) (.inr (.inl ht))
    unfold SettlePost; rw [e]; clear e
    go_enter Try.func11, Try.ntmps11
    go_wp2_with (go_at_call 14; refine (count_any _ _).mono ?_; rintro e w' ⟨rfl, rfl⟩)
    go_ret3
    exact ⟨rfl, rfl⟩
  cases hc : cnt c
  · have e := settle_bad (g := g) (t := t) (tol := tol) (.inr (.inr (.inl hc)))
    unfold SettlePost; rw [e]; clear e
    go_enter Try.func11, Try.ntmps11
    go_wp2_with (go_at_call 14; refine (count_any _ _).mono ?_; rintro e w' ⟨rfl, rfl⟩)
    go_ret3
    exact ⟨rfl, rfl⟩
  cases hl : cnt tol
  · have e := settle_bad (g := g) (t := t) (c := c) (.inr (.inr (.inr hl)))
    unfold SettlePost; rw [e]; clear e
    go_enter Try.func11, Try.ntmps11
    go_wp2_with (go_at_call 14; refine (count_any _ _).mono ?_; rintro e w' ⟨rfl, rfl⟩)
    go_ret3
    exact ⟨rfl, rfl⟩
  have hg' := cnt_yes hg
  have ht' := cnt_yes ht
  have hc' := cnt_yes hc
  cases hf : farB g t tol
  · have e := settle_near hg ht hc hl hf
    have hf2 := farB_near hf
    unfold SettlePost; rw [e]; clear e
    go_enter Try.func11, Try.ntmps11
    go_wp2_with (first | (go_at_call 14; refine (count_any _ _).mono ?_; rintro e w' ⟨rfl, rfl⟩) | (go_at_call 17; refine (apart_any _ _ (by assumption) (by assumption) _).mono ?_; rintro e w' ⟨rfl, rfl⟩))
    go_ret3
    exact ⟨rfl, rfl⟩
  have hf2 := farB_near hf
  cases ha : farB g c tol <;> cases hb : farB t c tol
  all_goals
    have e := settle_far _ _ hg ht hc hl hf ha hb
    have ha2 := farB_dist ha
    have hb2 := farB_dist hb
    unfold SettlePost; rw [e]; clear e
    go_enter Try.func11, Try.ntmps11
    go_wp2_with (first | (go_at_call 14; refine (count_any _ _).mono ?_; rintro e w' ⟨rfl, rfl⟩) | (go_at_call 17; refine (apart_any _ _ (by assumption) (by assumption) _).mono ?_; rintro e w' ⟨rfl, rfl⟩))
    go_ret3
    exact ⟨rfl, rfl⟩

def at4 (g t c tol : Int) (k : Nat) : Int := match k with | 0 => g | 1 => t | 2 => c | _ => tol
theorem settle_bad_at {g t c tol : Int} (k : Nat) (h : cnt (at4 g t c tol k) = false) : settle g t c tol = (0, 0, 1) := by
  match k, h with
  | 0, h => exact settle_bad (.inl h)
  | 1, h => exact settle_bad (.inr (.inl h))
  | 2, h => exact settle_bad (.inr (.inr (.inl h)))
  | (n+3), h => exact settle_bad (.inr (.inr (.inr h)))

theorem all_succ {g t c tol : Int} {k : Nat} (h : ∀ j : Nat, j < k → cnt (at4 g t c tol j) = true) (hk : cnt (at4 g t c tol k) = true) : ∀ j : Nat, j < k + 1 → cnt (at4 g t c tol j) = true := fun j hj => by
  by_cases e : j = k
  · rw [e]; exact hk
  · exact h j (by omega)

set_option maxHeartbeats 400000 in
theorem settle_any (g t c tol : Int) (w : World) :
    Calls Try.prog 10 #[.int .i64 g, .int .i64 t, .int .i64 c, .int .i64 tol] w (SettlePost g t c tol w) := by
  have i0 : ∀ w, (Instr.index 33 (.agg #[.int .i64 g, .int .i64 t, .int .i64 c, .int .i64 tol]) (.int .i64 0)).run Try.prog w = .ok (.int .i64 g) w := fun _ => by kernel_rfl
  have i1 : ∀ w, (Instr.index 33 (.agg #[.int .i64 g, .int .i64 t, .int .i64 c, .int .i64 tol]) (.int .i64 1)).run Try.prog w = .ok (.int .i64 t) w := fun _ => by kernel_rfl
  have i2 : ∀ w, (Instr.index 33 (.agg #[.int .i64 g, .int .i64 t, .int .i64 c, .int .i64 tol]) (.int .i64 2)).run Try.prog w = .ok (.int .i64 c) w := fun _ => by kernel_rfl
  have i3 : ∀ w, (Instr.index 33 (.agg #[.int .i64 g, .int .i64 t, .int .i64 c, .int .i64 tol]) (.int .i64 3)).run Try.prog w = .ok (.int .i64 tol) w := fun _ => by kernel_rfl
  go_enter Try.func10, Try.ntmps10
  go_wp2
  go_loop [19] (fun i => ∃ k : Nat, k ≤ 4 ∧ i = .int .i64 k ∧ ∀ j : Nat, j < k → cnt (at4 g t c tol j) = true) (fun i => 4 - (intOf i).toNat)
  case atStart => exact ⟨0, by omega, rfl, by omega⟩
  case round =>
    obtain ⟨k, hk, rfl, hall⟩ := hrel
    have hcase : k = 0 ∨ k = 1 ∨ k = 2 ∨ k = 3 ∨ k = 4 := by omega
    rcases hcase with rfl | rfl | rfl | rfl | rfl
    · cases hb : cnt g
      · have e := settle_bad_at (g := g) (t := t) (c := c) (tol := tol) 0 hb
        have E := Lib.hid e; clear e hall
        go_wp2_with (go_at_call 15; refine (iscount_any _ _).mono ?_; rintro e w' ⟨rfl, rfl⟩)
        go_ret3
        exact settle_post E.out
      · have H := Lib.hid (all_succ hall hb); clear hall
        go_wp2_with (go_at_call 15; refine (iscount_any _ _).mono ?_; rintro e w' ⟨rfl, rfl⟩)
        go_round
        case rel => exact ⟨1, by omega, rfl, H.out⟩
        case measure => simp [intOf]
    · cases hb : cnt t
      · have e := settle_bad_at (g := g) (t := t) (c := c) (tol := tol) 1 hb
        have E := Lib.hid e; clear e hall
        go_wp2_with (go_at_call 15; refine (iscount_any _ _).mono ?_; rintro e w' ⟨rfl, rfl⟩)
        go_ret3
        exact settle_post E.out
      · have H := Lib.hid (all_succ hall hb); clear hall
        go_wp2_with (go_at_call 15; refine (iscount_any _ _).mono ?_; rintro e w' ⟨rfl, rfl⟩)
        go_round
        case rel => exact ⟨2, by omega, rfl, H.out⟩
        case measure => simp [intOf]
    · cases hb : cnt c
      · have e := settle_bad_at (g := g) (t := t) (c := c) (tol := tol) 2 hb
        have E := Lib.hid e; clear e hall
        go_wp2_with (go_at_call 15; refine (iscount_any _ _).mono ?_; rintro e w' ⟨rfl, rfl⟩)
        go_ret3
        exact settle_post E.out
      · have H := Lib.hid (all_succ hall hb); clear hall
        go_wp2_with (go_at_call 15; refine (iscount_any _ _).mono ?_; rintro e w' ⟨rfl, rfl⟩)
        go_round
        case rel => exact ⟨3, by omega, rfl, H.out⟩
        case measure => simp [intOf]
    · cases hb : cnt tol
      · have e := settle_bad_at (g := g) (t := t) (c := c) (tol := tol) 3 hb
        have E := Lib.hid e; clear e hall
        go_wp2_with (go_at_call 15; refine (iscount_any _ _).mono ?_; rintro e w' ⟨rfl, rfl⟩)
        go_ret3
        exact settle_post E.out
      · have H := Lib.hid (all_succ hall hb); clear hall
        go_wp2_with (go_at_call 15; refine (iscount_any _ _).mono ?_; rintro e w' ⟨rfl, rfl⟩)
        go_round
        case rel => exact ⟨4, by omega, rfl, H.out⟩
        case measure => simp [intOf]
    · have hg : cnt g = true := hall 0 (by omega)
      have ht : cnt t = true := hall 1 (by omega)
      have hc : cnt c = true := hall 2 (by omega)
      have hl : cnt tol = true := hall 3 (by omega)
      clear hall
      have hg' := cnt_yes hg
      have ht' := cnt_yes ht
      have hc' := cnt_yes hc
      cases hf : farB g t tol
      · have e := settle_near hg ht hc hl hf
        have E := Lib.hid e; clear e
        go_wp2_with (go_at_call 16; refine (far_any _ _ _ (by assumption) (by assumption) _).mono ?_; rintro e w' ⟨rfl, rfl⟩)
        go_ret3
        exact settle_post E.out
      cases ha : farB g c tol <;> cases hb : farB t c tol
      all_goals
        have e := settle_far _ _ hg ht hc hl hf ha hb
        have E := Lib.hid e; clear e
        go_wp2_with (go_at_call 16; refine (far_any _ _ _ (by assumption) (by assumption) _).mono ?_; rintro e w' ⟨rfl, rfl⟩)
        go_ret3
        exact settle_post E.out
def fees (wr fee : Int) : Int × Int :=
  if 0 ≤ wr ∧ wr ≤ 3 ∧ cnt fee = true then
    if wr = 1 then (fee, 0) else if wr = 2 then (0, fee) else (fee - fee / 2, fee / 2)
  else (0, 0)
def FeesPost (wr fee : Int) (P : World → Prop) (e : Ending) (w' : World) : Prop :=
  e = .returned (.tuple #[.int .i64 (fees wr fee).1, .int .i64 (fees wr fee).2]) ∧ P w'
theorem fees_post {wr fee a b : Int} {P : World → Prop} {w' : World} (h : fees wr fee = (a, b)) (hp : P w') : FeesPost wr fee P (.returned (.tuple #[.int .i64 a, .int .i64 b])) w' :=
  ⟨by rw [h], hp⟩
theorem fees_bad {wr fee : Int} (h : wr < 0 ∨ 3 < wr ∨ cnt fee = false) : fees wr fee = (0, 0) := by
  unfold fees; rw [if_neg]; rintro ⟨a, b, c⟩; rcases h with h | h | h
  · omega
  · omega
  · simp [h] at c
theorem fees_ok {wr fee : Int} (h0 : 0 ≤ wr) (h3 : wr ≤ 3) (hc : cnt fee = true) : fees wr fee = if wr = 1 then (fee, 0) else if wr = 2 then (0, fee) else (fee - fee / 2, fee / 2) := by
  unfold fees; rw [if_pos ⟨h0, h3, hc⟩]

theorem fees_0 {fee : Int} (hc : cnt fee = true) : fees 0 fee = (fee - fee / 2, fee / 2) := by rw [fees_ok (by omega) (by omega) hc]; rfl
theorem fees_1 {fee : Int} (hc : cnt fee = true) : fees 1 fee = (fee, 0) := by rw [fees_ok (by omega) (by omega) hc]; rfl
theorem fees_2 {fee : Int} (hc : cnt fee = true) : fees 2 fee = (0, fee) := by rw [fees_ok (by omega) (by omega) hc]; rfl
theorem fees_3 {fee : Int} (hc : cnt fee = true) : fees 3 fee = (fee - fee / 2, fee / 2) := by rw [fees_ok (by omega) (by omega) hc]; rfl
set_option maxHeartbeats 400000 in
theorem reffees_any (wr fee : Int) (w : World) :
    Calls Try.prog 13 #[.int .i64 wr, .int .i64 fee] w (FeesPost wr fee (fun w' => w = w')) := by
  by_cases h0 : wr < 0
  · have E := Lib.hid (fees_bad (fee := fee) (.inl h0))
    go_enter Try.func13, Try.ntmps13
    go_wp2_with (go_at_call 14; refine (count_any _ _).mono ?_; rintro e w' ⟨rfl, rfl⟩)
    go_ret2
    exact fees_post E.out rfl
  by_cases h3 : 3 < wr
  · have E := Lib.hid (fees_bad (fee := fee) (.inr (.inl h3)))
    go_enter Try.func13, Try.ntmps13
    go_wp2_with (go_at_call 14; refine (count_any _ _).mono ?_; rintro e w' ⟨rfl, rfl⟩)
    go_ret2
    exact fees_post E.out rfl
  cases hc : cnt fee
  · have E := Lib.hid (fees_bad (wr := wr) (.inr (.inr hc)))
    go_enter Try.func13, Try.ntmps13
    go_wp2_with (go_at_call 14; refine (count_any _ _).mono ?_; rintro e w' ⟨rfl, rfl⟩)
    go_ret2
    exact fees_post E.out rfl
  have hcases : wr = 0 ∨ wr = 1 ∨ wr = 2 ∨ wr = 3 := by omega
  obtain ⟨f0, f1⟩ := cnt_yes hc
  rcases hcases with rfl | rfl | rfl | rfl
  · have E := Lib.hid (fees_0 hc)
    go_enter Try.func13, Try.ntmps13
    go_wp2_with (first | (go_at_call 14; refine (count_any _ _).mono ?_; rintro e w' ⟨rfl, rfl⟩))
    go_ret2
    exact fees_post E.out rfl
  · have E := Lib.hid (fees_1 hc)
    go_enter Try.func13, Try.ntmps13
    go_wp2_with (first | (go_at_call 14; refine (count_any _ _).mono ?_; rintro e w' ⟨rfl, rfl⟩))
    go_ret2
    exact fees_post E.out rfl
  · have E := Lib.hid (fees_2 hc)
    go_enter Try.func13, Try.ntmps13
    go_wp2_with (first | (go_at_call 14; refine (count_any _ _).mono ?_; rintro e w' ⟨rfl, rfl⟩))
    go_ret2
    exact fees_post E.out rfl
  · have E := Lib.hid (fees_3 hc)
    go_enter Try.func13, Try.ntmps13
    go_wp2_with (first | (go_at_call 14; refine (count_any _ _).mono ?_; rintro e w' ⟨rfl, rfl⟩))
    go_ret2
    exact fees_post E.out rfl

theorem fees1 (fee : Int) (h0 : 0 ≤ fee) (h1 : fee ≤ 1000000) (w : World) :
    Calls Try.prog 18 #[.int .i64 fee] w fun e w' => e = .returned (.tuple #[.int .i64 (fee - fee / 2), .int .i64 (fee / 2)]) ∧ w = w' := by
  go_enter Try.func18, Try.ntmps18
  go_wp2
  go_ret2
  exact ⟨rfl, rfl⟩
theorem fees2 (fee : Int) (w : World) :
    Calls Try.prog 19 #[.int .i64 fee] w fun e w' => e = .returned (.tuple #[.int .i64 fee, .int .i64 0]) ∧ w = w' := by
  go_enter Try.func19, Try.ntmps19
  go_wp2
  go_ret2
  exact ⟨rfl, rfl⟩
theorem fees3 (fee : Int) (w : World) :
    Calls Try.prog 20 #[.int .i64 fee] w fun e w' => e = .returned (.tuple #[.int .i64 0, .int .i64 fee]) ∧ w = w' := by
  go_enter Try.func20, Try.ntmps20
  go_wp2
  go_ret2
  exact ⟨rfl, rfl⟩
set_option maxHeartbeats 400000 in
theorem fees_any (wr fee : Int) (w : World) :
    Calls Try.prog 12 #[.int .i64 wr, .int .i64 fee] w (FeesPost wr fee (fun w' => Keeps w w')) := by
  by_cases h0 : wr < 0
  · have E := Lib.hid (fees_bad (fee := fee) (.inl h0))
    go_enter Try.func12, Try.ntmps12
    go_wp2_with (go_at_call 15; refine (iscount_any _ _).mono ?_; rintro e w' ⟨rfl, rfl⟩)
    go_ret2
    exact fees_post E.out (Keeps.refl _)
  by_cases h3 : 3 < wr
  · have E := Lib.hid (fees_bad (fee := fee) (.inr (.inl h3)))
    go_enter Try.func12, Try.ntmps12
    go_wp2_with (go_at_call 15; refine (iscount_any _ _).mono ?_; rintro e w' ⟨rfl, rfl⟩)
    go_ret2
    exact fees_post E.out (Keeps.refl _)
  cases hc : cnt fee
  · have E := Lib.hid (fees_bad (wr := wr) (.inr (.inr hc)))
    have h4 : decide (4 ≤ wr) = false := by simp; omega
    go_enter Try.func12, Try.ntmps12
    go_wp2_with (go_at_call 15; refine (iscount_any _ _).mono ?_; rintro e w' ⟨rfl, rfl⟩)
    go_ret2
    exact fees_post E.out (Keeps.refl _)
  have hcases : wr = 0 ∨ wr = 1 ∨ wr = 2 ∨ wr = 3 := by omega
  obtain ⟨f0, f1⟩ := cnt_yes hc
  rcases hcases with rfl | rfl | rfl | rfl
  · have E := Lib.hid (fees_0 hc)
    go_enter Try.func12, Try.ntmps12
    go_wp2_with (first | (go_at_call 15; refine (iscount_any _ _).mono ?_; rintro e w' ⟨rfl, rfl⟩) | (go_at_call 18; refine (fees1 _ (by assumption) (by assumption) _).mono ?_; rintro e w' ⟨rfl, rfl⟩) | (go_at_call 19; refine (fees2 _ _).mono ?_; rintro e w' ⟨rfl, rfl⟩) | (go_at_call 20; refine (fees3 _ _).mono ?_; rintro e w' ⟨rfl, rfl⟩))
    go_ret2
    exact fees_post E.out (((Keeps.refl _).alloc _).alloc _)
  · have E := Lib.hid (fees_1 hc)
    go_enter Try.func12, Try.ntmps12
    go_wp2_with (first | (go_at_call 15; refine (iscount_any _ _).mono ?_; rintro e w' ⟨rfl, rfl⟩) | (go_at_call 18; refine (fees1 _ (by assumption) (by assumption) _).mono ?_; rintro e w' ⟨rfl, rfl⟩) | (go_at_call 19; refine (fees2 _ _).mono ?_; rintro e w' ⟨rfl, rfl⟩) | (go_at_call 20; refine (fees3 _ _).mono ?_; rintro e w' ⟨rfl, rfl⟩))
    go_ret2
    exact fees_post E.out (((Keeps.refl _).alloc _).alloc _)
  · have E := Lib.hid (fees_2 hc)
    go_enter Try.func12, Try.ntmps12
    go_wp2_with (first | (go_at_call 15; refine (iscount_any _ _).mono ?_; rintro e w' ⟨rfl, rfl⟩) | (go_at_call 18; refine (fees1 _ (by assumption) (by assumption) _).mono ?_; rintro e w' ⟨rfl, rfl⟩) | (go_at_call 19; refine (fees2 _ _).mono ?_; rintro e w' ⟨rfl, rfl⟩) | (go_at_call 20; refine (fees3 _ _).mono ?_; rintro e w' ⟨rfl, rfl⟩))
    go_ret2
    exact fees_post E.out (((Keeps.refl _).alloc _).alloc _)
  · have E := Lib.hid (fees_3 hc)
    go_enter Try.func12, Try.ntmps12
    go_wp2_with (first | (go_at_call 15; refine (iscount_any _ _).mono ?_; rintro e w' ⟨rfl, rfl⟩) | (go_at_call 18; refine (fees1 _ (by assumption) (by assumption) _).mono ?_; rintro e w' ⟨rfl, rfl⟩) | (go_at_call 19; refine (fees2 _ _).mono ?_; rintro e w' ⟨rfl, rfl⟩) | (go_at_call 20; refine (fees3 _ _).mono ?_; rintro e w' ⟨rfl, rfl⟩))
    go_ret2
    exact fees_post E.out (((Keeps.refl _).alloc _).alloc _)
def TruePost (w : World) (e : Ending) (w' : World) : Prop := e = .returned (.bool true) ∧ Keeps w w'
theorem true_post {w w' : World} (h : Keeps w w') : TruePost w (.returned (.bool true)) w' := ⟨rfl, h⟩

set_option maxRecDepth 100000 in
set_option maxHeartbeats 1000000 in
theorem head_any (w : World) : Calls Try.prog 9 #[] w (TruePost w) := by
  have e1 : settle 100 100 3 0 = (100, 0, 0) := by decide
  have e2 : settle 100 97 97 2 = (97, 1, 0) := by decide
  have e3 : settle 100 90 95 6 = (95, 0, 0) := by decide
  have e4 : settle 100 80 120 5 = (120, 3, 0) := by decide
  have e5 : settle (-1) 0 0 0 = (0, 0, 1) := by decide
  have e6 : fees 1 7 = (7, 0) := by decide
  have e7 : fees 0 7 = (4, 3) := by decide
  go_enter Try.func9, Try.ntmps9
  go_wp2_with (first | (go_at_call 10; refine (settle_any _ _ _ _ _).mono ?_; rintro e w' ⟨rfl, rfl⟩) | (go_at_call 12; refine (fees_any _ _ _).mono ?_; first | (have _t := hg; rintro e w' ⟨rfl, hg2⟩) | rintro e w' ⟨rfl, hg⟩))
  go_ret
  exact true_post (Keeps.trans hg hg2)

theorem law_matches (a0 a1 a2 a3 a4 a5 : Int) (w : World) :
    Calls Try.prog 3 #[.int .i64 a0, .int .i64 a1, .int .i64 a2, .int .i64 a3, .int .i64 a4, .int .i64 a5] w (TruePost w) := by
  go_enter Try.func3, Try.ntmps3
  go_wp2_with (first | (go_at_call 9; refine (head_any _).mono ?_; rintro e w' ⟨rfl, hg1⟩) | (go_at_call 10; refine (settle_any _ _ _ _ _).mono ?_; rintro e w' ⟨rfl, rfl⟩) | (go_at_call 11; refine (refsettle_any _ _ _ _ _).mono ?_; rintro e w' ⟨rfl, rfl⟩) | (go_at_call 12; refine (fees_any _ _ _).mono ?_; rintro e w' ⟨rfl, hg2⟩) | (go_at_call 13; refine (reffees_any _ _ _).mono ?_; rintro e w' ⟨rfl, rfl⟩))
  go_ret
  exact true_post (hg1.trans hg2)
end Go.Proofs.Ytcpcnhlmpgcejaa
