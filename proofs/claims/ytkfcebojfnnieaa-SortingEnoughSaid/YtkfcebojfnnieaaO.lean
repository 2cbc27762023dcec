import Derived.Test.YtkfcebojfnnieaaM
import Derived.Test.YtkfcebojfnnieaaRows
import Derived.WalkKit
import Derived.WalkSpells
import Derived.WalkLawsBesides
import Derived.Laws.EntriesVeiled
import Derived.ProofKit
import Derived.OpenShut
import Derived.Lib.Hide
import Derived.BigQuiet
import Derived.Deep.QuietTactic
import Derived.Below
import Derived.Laws.OwnMore
import Derived.Deep.AppendLies
import Derived.Deep.Draws
import Derived.Laws.Rows
import Derived.Maps.AppendAt
import Derived.RegionTactic
import Derived.OwnWalk
import Derived.Deep.RegionHeld3
namespace Go.Proofs.Ytkfcebojfnnieaa
open Go.ChangeShapes Go.WideShapes Go.ChangeAt Go.RowKit
set_option linter.unusedSimpArgs false
set_option linter.unusedVariables false
theorem pw_mono {P j k : Nat} (hP : 1 ≤ P) (h : j ≤ k) : pw P j ≤ pw P k := Nat.pow_le_pow_right hP h
theorem pw_base {P Q : Nat} (h : P ≤ Q) (k : Nat) : pw P k ≤ pw Q k := Nat.pow_le_pow_left h k
theorem first_spec (P n : Nat) : (∃ k, 1 ≤ k ∧ k ≤ 4 ∧ firstF P n 4 1 = (k, 0) ∧ n ≤ pw P k ∧ ∀ j, 1 ≤ j → j < k → pw P j < n) ∨ (firstF P n 4 1 = (0, 140) ∧ ∀ j, 1 ≤ j → j ≤ 4 → pw P j < n) := by
  by_cases h1 : n ≤ pw P 1
  · exact .inl ⟨1, by omega, by omega, by simp [firstF, h1], h1, fun j a b => by omega⟩
  by_cases h2 : n ≤ pw P 2
  · exact .inl ⟨2, by omega, by omega, by simp [firstF, h1, h2], h2, fun j a b => by
      obtain rfl : j = 1 := by omega
      omega⟩
  by_cases h3 : n ≤ pw P 3
  · exact .inl ⟨3, by omega, by omega, by simp [firstF, h1, h2, h3], h3, fun j a b => by
      rcases (by omega : j = 1 ∨ j = 2) with rfl | rfl <;> omega⟩
  by_cases h4 : n ≤ pw P 4
  · exact .inl ⟨4, by omega, by omega, by simp [firstF, h1, h2, h3, h4], h4, fun j a b => by
      rcases (by omega : j = 1 ∨ j = 2 ∨ j = 3) with rfl | rfl | rfl <;> omega⟩
  · exact .inr ⟨by simp [firstF, h1, h2, h3, h4], fun j a b => by
      rcases (by omega : j = 1 ∨ j = 2 ∨ j = 3 ∨ j = 4) with rfl | rfl | rfl | rfl <;> omega⟩
theorem first_le {P Q n k : Nat} (hPQ : P ≤ Q) (hk : 1 ≤ k ∧ k ≤ 4) (h : n ≤ pw P k) : ∃ m, 1 ≤ m ∧ m ≤ k ∧ firstF Q n 4 1 = (m, 0) := by
  have hq : n ≤ pw Q k := Nat.le_trans h (pw_base hPQ k)
  rcases first_spec Q n with ⟨m, h1, h2, h3, h4, h5⟩ | ⟨_, h2⟩
  · refine ⟨m, h1, ?_, h3⟩
    rcases Nat.lt_or_ge k m with hlt | hge
    · have := h5 k hk.1 hlt; omega
    · exact hge
  · have := h2 k hk.1 hk.2; omega
theorem first_iff {P n k j : Nat} (hP : 1 ≤ P) (h4 : n ≤ pw P k) (h5 : ∀ j, 1 ≤ j → j < k → pw P j < n) (hj : 1 ≤ j) : n ≤ pw P j ↔ k ≤ j := by
  constructor
  · intro h
    rcases Nat.lt_or_ge j k with hlt | hge
    · have := h5 j hj hlt; omega
    · exact hge
  · intro h; exact Nat.le_trans h4 (pw_mono hP h)
set_option maxHeartbeats 4000000 in
set_option maxRecDepth 100000 in
theorem enough_ok (P n k : Nat) (a0 a1 : Int) (w : World) (h0 : 0 ≤ a0) (h0' : a0 ≤ 255) (h1 : 0 ≤ a1) (h1' : a1 ≤ 65535) (eP : 2 + a0 % 63 = (P : Int)) (en : a1 % 2001 = (n : Int))
    (k1 : 1 ≤ k) (k4 : k ≤ 4) (hf : firstF P n 4 1 = (k, 0)) (hle : n ≤ pw P k) (hlt : ∀ j, 1 ≤ j → j < k → pw P j < n) : Calls Try.prog 6 #[.int .u8 a0, .int .u16 a1] w (BoolPost true w) := by
  have q1 : 2 ≤ P := by omega
  have q2 : P ≤ 64 := by omega
  have q5 : n ≤ 2000 := by omega
  have EP := Lib.hid eP; clear eP
  have HPS := Lib.hid (fun w => passes_ok P n w q1 q2 (by omega) (k, 0) hf)
  have HIFF := Lib.hid (fun j hj => first_iff (j := j) (show 1 ≤ P by omega) hle hlt hj)
  obtain ⟨m, m1, m2, m3⟩ := first_le (Q := P + 1) (show P ≤ P + 1 by omega) ⟨k1, k4⟩ hle
  have HPQ : Hid (P ≠ 64 → ∀ w, Calls Try.prog 13 #[.int .i64 ((P : Int) + 1), .int .i64 (n : Int)] w (PairPost (m : Int) 0 w)) := Lib.hid (fun hne w => passes_ok (P + 1) n w (by omega) (by omega) (by omega) (m, 0) m3)
  clear hf hle hlt m3
  have t1 : decide ((k : Int) < 1) = false := by simp; omega
  have t2 : decide ((4 : Int) < (k : Int)) = false := by simp; omega
  go_enter Try.func6, Try.ntmps6
  go_wp2_with (first | (go_at_call 11; (with_reducible refine (head_any _).mono ?_); rintro e w1 ⟨rfl, hk1⟩) | (go_at_call 23; (with_reducible refine (base_any a0 _ h0 h0' P EP.out).mono ?_); rintro e w2 ⟨rfl, rfl⟩) | (go_at_call 13; (with_reducible refine (HPS.out _).mono ?_); rintro e w3 ⟨rfl, hk3⟩))
  have K3 := Lib.hid (hk1.trans hk3)
  clear hk1 hk3
  go_loopw [10] (fun i wr => ∃ j : Nat, 1 ≤ j ∧ j ≤ 5 ∧ i = .int .i64 (j : Int) ∧ Keeps w wr) (fun i _ => 5 - (intOf i).toNat)
  case atStart => exact ⟨1, by omega, by omega, rfl, K3.out⟩
  case round =>
    obtain ⟨j, hj1, hj5, rfl, hK⟩ := hrel
    by_cases hj4 : j ≤ 4
    · have hji : (j : Int) ≤ 4 := by omega
      have hjw : IntKind.i64.wrap ((j : Int) + 1) = (j : Int) + 1 := IntWalk.i64_in _ (by omega)
      by_cases hle : n ≤ pw P j
      · have hkj := (HIFF.out j hj1).1 hle
        have u1 : decide (k ≤ j) = true := by simpa using hkj
        have u2 : decide ((k : Int) ≤ (j : Int)) = true := by simp; omega
        have HS := Lib.hid (fun w => scheme_ok P j n w q1 q2 hj1 hj4 q5 hle)
        clear hle
        go_wp2_with fail
        refine (HS.out _).mono ?_
        rintro e w3 ⟨A3, c3, rfl, q3', hk3⟩
        clear q3'
        have HSL := Lib.hid (schemeF_len P j n)
        rw [HSL.out]
        go_wp2_with fail
        go_roundw
        case rel => exact ⟨j + 1, by omega, by omega, by go_num, hK.trans hk3⟩
        case measure => simp [intOf]; omega
      · have hkj : ¬ k ≤ j := fun h => hle ((HIFF.out j hj1).2 h)
        have u1 : decide (k ≤ j) = false := by simpa using hkj
        have u2 : decide ((k : Int) ≤ (j : Int)) = false := by simp; omega
        have HS := Lib.hid (fun w => scheme_few P j n w q1 q2 hj1 hj4 q5 (by omega))
        clear hle
        go_wp2_with fail
        refine (HS.out _).mono ?_
        rintro e w3 ⟨A3, c3, rfl, q3', hk3⟩
        simp only [List.length_nil]
        clear q3'
        go_wp2_with fail
        go_roundw
        case rel => exact ⟨j + 1, by omega, by omega, by go_num, hK.trans hk3⟩
        case measure => simp [intOf]; omega
    · by_cases h64 : P = 64
      · have v1 : ((P : Int) == 64) = true := by simp; omega
        have v2 : (P == 64) = true := by simpa using h64
        clear h64
        go_wp2_with fail
        go_ret
        exact bool_post rfl hK
      · have v1 : ((P : Int) == 64) = false := by simp; omega
        have v2 : (P == 64) = false := by simpa using h64
        have HQ := Lib.hid (HPQ.out h64)
        have hPw : IntKind.i64.wrap ((P : Int) + 1) = (P : Int) + 1 := IntWalk.i64_in _ (by omega)
        have u1 : decide (m ≤ k) = true := by simpa using m2
        have u2 : decide ((m : Int) ≤ (k : Int)) = true := by simp; omega
        clear h64
        go_wp2_with (go_at_call 13; (with_reducible refine (HQ.out _).mono ?_); rintro e w3 ⟨rfl, hk3⟩)
        go_ret
        exact bool_post rfl (hK.trans hk3)
set_option maxHeartbeats 4000000 in
set_option maxRecDepth 100000 in
theorem enough_no (P n : Nat) (a0 a1 : Int) (w : World) (h0 : 0 ≤ a0) (h0' : a0 ≤ 255) (h1 : 0 ≤ a1) (h1' : a1 ≤ 65535) (eP : 2 + a0 % 63 = (P : Int)) (en : a1 % 2001 = (n : Int))
    (hf : firstF P n 4 1 = (0, 140)) (hlt : ∀ j, 1 ≤ j → j ≤ 4 → pw P j < n) : Calls Try.prog 6 #[.int .u8 a0, .int .u16 a1] w (BoolPost true w) := by
  have q1 : 2 ≤ P := by omega
  have q2 : P ≤ 64 := by omega
  have q5 : n ≤ 2000 := by omega
  have EP := Lib.hid eP; clear eP
  have HPS := Lib.hid (fun w => passes_ok P n w q1 q2 (by omega) (0, 140) hf)
  have HLT := Lib.hid hlt
  obtain ⟨m, b, hmb⟩ : ∃ m b, firstF (P + 1) n 4 1 = (m, b) := ⟨_, _, rfl⟩
  have HPQ : Hid (P ≠ 64 → ∀ w, Calls Try.prog 13 #[.int .i64 ((P : Int) + 1), .int .i64 (n : Int)] w (PairPost (m : Int) (b : Int) w)) := Lib.hid (fun hne w => passes_ok (P + 1) n w (by omega) (by omega) (by omega) (m, b) hmb)
  clear hf hlt hmb
  go_enter Try.func6, Try.ntmps6
  go_wp2_with (first | (go_at_call 11; (with_reducible refine (head_any _).mono ?_); rintro e w1 ⟨rfl, hk1⟩) | (go_at_call 23; (with_reducible refine (base_any a0 _ h0 h0' P EP.out).mono ?_); rintro e w2 ⟨rfl, rfl⟩) | (go_at_call 13; (with_reducible refine (HPS.out _).mono ?_); rintro e w3 ⟨rfl, hk3⟩))
  have K3 := Lib.hid (hk1.trans hk3)
  clear hk1 hk3
  go_loopw [10] (fun i wr => ∃ j : Nat, 1 ≤ j ∧ j ≤ 5 ∧ i = .int .i64 (j : Int) ∧ Keeps w wr) (fun i _ => 5 - (intOf i).toNat)
  case atStart => exact ⟨1, by omega, by omega, rfl, K3.out⟩
  case round =>
    obtain ⟨j, hj1, hj5, rfl, hK⟩ := hrel
    by_cases hj4 : j ≤ 4
    · have hji : (j : Int) ≤ 4 := by omega
      have hjw : IntKind.i64.wrap ((j : Int) + 1) = (j : Int) + 1 := IntWalk.i64_in _ (by omega)
      have HS := Lib.hid (fun w => scheme_few P j n w q1 q2 hj1 hj4 q5 (HLT.out j hj1 hj4))
      go_wp2_with fail
      refine (HS.out _).mono ?_
      rintro e w3 ⟨A3, c3, rfl, q3', hk3⟩
      simp only [List.length_nil]
      clear q3'
      go_wp2_with fail
      go_roundw
      case rel => exact ⟨j + 1, by omega, by omega, by go_num, hK.trans hk3⟩
      case measure => simp [intOf]; omega
    · by_cases h64 : P = 64
      · have v1 : ((P : Int) == 64) = true := by simp; omega
        have v2 : (P == 64) = true := by simpa using h64
        clear h64
        go_wp2_with fail
        go_ret
        exact bool_post rfl hK
      · have v1 : ((P : Int) == 64) = false := by simp; omega
        have v2 : (P == 64) = false := by simpa using h64
        have HQ := Lib.hid (HPQ.out h64)
        have hPw : IntKind.i64.wrap ((P : Int) + 1) = (P : Int) + 1 := IntWalk.i64_in _ (by omega)
        clear h64
        go_wp2_with (go_at_call 13; (with_reducible refine (HQ.out _).mono ?_); rintro e w3 ⟨rfl, hk3⟩)
        go_ret
        exact bool_post rfl (hK.trans hk3)
theorem law_enough (a0 a1 : Int) (w : World) (h0 : 0 ≤ a0) (h0' : a0 ≤ 255) (h1 : 0 ≤ a1) (h1' : a1 ≤ 65535) : Calls Try.prog 6 #[.int .u8 a0, .int .u16 a1] w (BoolPost true w) := by
  rcases first_spec (2 + a0 % 63).toNat (a1 % 2001).toNat with ⟨k, k1, k4, hf, hle, hlt⟩ | ⟨hf, hlt⟩
  · exact enough_ok (2 + a0 % 63).toNat (a1 % 2001).toNat k a0 a1 w h0 h0' h1 h1' (by omega) (by omega) k1 k4 hf hle hlt
  · exact enough_no (2 + a0 % 63).toNat (a1 % 2001).toNat a0 a1 w h0 h0' h1 h1' (by omega) (by omega) hf hlt
/-- The scheme, with what its blocks are. -/
def OutPost (P k n : Nat) (w : World) (e : Ending) (w' : World) : Prop := e = .returned (.tuple #[.slice (some ⟨w.heap.size, 0, none⟩) k k, .int .i64 0]) ∧ Outer w w' k n k (fun j d => (digit P j d : Int))
set_option maxHeartbeats 4000000 in
set_option maxRecDepth 100000 in
theorem scheme_out (P k n : Nat) (w : World) (hP1 : 2 ≤ P) (hP2 : P ≤ 64) (hk1 : 1 ≤ k) (hk2 : k ≤ 4) (hn : n ≤ 2000) (hle : n ≤ pw P k) :
    Calls Try.prog 15 #[.int .i64 (P : Int), .int .i64 (k : Int), .int .i64 (n : Int)] w (OutPost P k n w) := by
  have HM := Lib.hid (show machB (P : Int) = true by simp [machB]; omega)
  have hpl := pw_le64 hP2 hk2
  obtain ⟨a, ha⟩ : ∃ a, pw P k = a := ⟨_, rfl⟩
  rw [ha] at hle hpl
  have HA := Lib.hid ha; clear ha
  have t1 : decide ((k : Int) < 1) = false := by simp; omega
  have t2 : decide ((4 : Int) < (k : Int)) = false := by simp; omega
  have t3 : decide ((n : Int) < 0) = false := by simp
  have t4 : decide ((2000 : Int) < (n : Int)) = false := by simp; omega
  have t5 : decide (a < n) = false := by simp; omega
  have t5' : decide ((a : Int) < (n : Int)) = false := by simp; omega
  have hmk23 := run_make_row' (P := Try.prog) 23 22 (.slice none 0 0) 24 Try.underlying23 info22' rfl .i64 .i64 k (by omega) (by omega)
  go_enter Try.func15, Try.ntmps15
  go_wp2_with (first | (go_at_call 29; with_reducible refine (machine_any _ _ true HM.out).mono ?_; rintro e w' ⟨rfl, rfl⟩) | (go_at_call 30; with_reducible refine (power_any P k _ hP2 hk2 a HA.out).mono ?_; rintro e w' ⟨rfl, rfl⟩))
  clear hmk23
  go_loopg [38] k (fun g i wr => ∃ r : Nat, r ≤ k ∧ g = k - r ∧ i = .int .i64 (r : Int) ∧ Outer w wr k n r (fun j d => (digit P j d : Int)))
  case atStart => exact ⟨0, Nat.zero_le _, rfl, rfl, outer_start w k n _⟩
  case round =>
    obtain ⟨r, hr, rfl, rfl, hO⟩ := hrel
    have HO := Lib.hid hO; clear hO
    by_cases hrk : r < k
    · have hsize := HO.out.size
      have hmk22 := run_make_row' (P := Try.prog) 22 3 (.int .i64 0) 8 Try.underlying22 info3' rfl .i64 .i64 n (by omega) (by omega)
      have hst1 : ∀ o, (wr.alloc o).cell? ⟨w.heap.size, r, none⟩ = some (top w.heap.size n r r) := fun o => (HO.out.top.alloc o).cell hrk
      have hst2 : ∀ o, (wr.alloc o).frozen? ⟨w.heap.size, r, none⟩ = false := fun o => (HO.out.top.alloc o).frozen r
      have hrz : (r : Int) < (k : Int) := by omega
      go_wp2_with fail
      have hI0 := inner_start HO.out
      clear hmk22 hst1 hst2 hsize
      go_loopg [47] n (fun g i wi => ∃ c : Nat, c ≤ n ∧ g = n - c ∧ i = .int .i64 (c : Int) ∧ Inner w wi k n r c (fun j d => (digit P j d : Int)))
      case atStart => exact ⟨0, Nat.zero_le _, rfl, rfl, hI0⟩
      case round =>
        obtain ⟨c, hc, rfl, rfl, hI⟩ := hrel
        have HI := Lib.hid hI; clear hI hI0
        by_cases hcn : c < n
        · have u1 : wr.cell? ⟨w.heap.size, r, none⟩ = some (.slice (some ⟨w.heap.size + 1 + r, 0, none⟩) n n) := by simpa [top] using HI.out.top.cell hrk
          have u2 : wr.cell? ⟨w.heap.size + 1 + r, c, none⟩ = some (.int .i64 0) := by simpa using HI.out.cur.cell hcn
          have u3 : wr.frozen? ⟨w.heap.size + 1 + r, c, none⟩ = false := HI.out.cur.frozen c
          have hcz : (c : Int) < (n : Int) := by omega
          obtain ⟨b, hb⟩ : ∃ b, pw P r = b := ⟨_, rfl⟩
          have HB := Lib.hid hb
          have hb0 : 1 ≤ b := by rw [← hb]; exact Nat.pow_pos (by omega)
          have hb1 := pw_le64 hP2 (show r ≤ 4 by omega)
          rw [hb] at hb1
          clear hb
          go_wp2_with fail
          refine wp_region_still_tail 13 (by kernel_rfl) (by kernel_rfl) ?_
          simp only [List.take_succ_cons, List.take_zero, List.drop_succ_cons, List.drop_zero]
          repeat still_step
          still_call ((power_any P r _ hP2 (by omega) b HB.out).mono fun _ _ h => ⟨h.1, h.2.symm⟩)
          have hbz : ¬ b = 0 := by omega
          have hPz : ¬ P = 0 := by omega
          have hwq : IntKind.i64.wrap ((c : Int) / (b : Int)) = (c : Int) / (b : Int) := IntWalk.i64_in _ ⟨by have := Int.ediv_nonneg (a := c) (b := b) (by omega) (by omega); omega, by have := Int.ediv_le_self (a := c) (b := b) (by omega); omega⟩
          have hq0 : (0 : Int) ≤ (c : Int) / (b : Int) := Int.ediv_nonneg (by omega) (by omega)
          repeat still_step
          refine wpStill_nil ?_
          change wpList _ _ _ _ _ wr.drew
          have HS := Lib.hid (inner_step (inner_drew HI.out) (v := (c : Int) / (b : Int) % (P : Int)) (by exact (digit_int HB.out).symm))
          have hcw : IntKind.i64.wrap ((c : Int) + 1) = (c : Int) + 1 := IntWalk.i64_in _ (by omega)
          go_wp2_with fail
          go_roundg (n - (c + 1))
          case measure => go_light; omega
          case rel => go_light; exact ⟨c + 1, by omega, rfl, by go_num, HS.out⟩
        · obtain rfl : c = n := by omega
          have HD := Lib.hid (inner_done HI.out)
          have hrw : IntKind.i64.wrap ((r : Int) + 1) = (r : Int) + 1 := IntWalk.i64_in _ (by omega)
          go_wp2_with fail
          go_roundg (k - (r + 1))
          case measure => go_light; omega
          case rel => go_light; exact ⟨r + 1, by omega, rfl, by go_num, HD.out⟩
    · obtain rfl : r = k := by omega
      have HR := Lib.hid (show OutPost P r n w (.returned (.tuple #[.slice (some ⟨w.heap.size, 0, none⟩) r r, .int .i64 0])) wr from ⟨rfl, HO.out⟩)
      go_wp2_with fail
      go_ret2
      exact HR.out

theorem outer_cell {w wr w2 : World} {P k n j : Nat} (h : Outer w wr k n k (fun j d => (digit P j d : Int))) (hk : Keeps wr w2) (hj : j < k) : w2.cell? ⟨w.heap.size, j, none⟩ = some (.slice (some ⟨w.heap.size + 1 + j, 0, none⟩) n n) := by
  have h1 := (rowIs_keeps h.top hk).cell hj
  simpa [top, hj] using h1
theorem outer_digit {w wr w2 : World} {P k n j x : Nat} (h : Outer w wr k n k (fun j d => (digit P j d : Int))) (hk : Keeps wr w2) (hj : j < k) (hx : x < n) : w2.cell? ⟨w.heap.size + 1 + j, x, none⟩ = some (.int .i64 ((digit P j x : Nat) : Int)) := (rowIs_keeps (h.done j hj) hk).cell hx
theorem outer_nums {w wr w2 : World} {P k n j m : Nat} (h : Outer w wr k n k (fun j d => (digit P j d : Int))) (hk : Keeps wr w2) (hj : j < k) (hm : m ≤ n) : Nums .i64 w2 w2.heap.size (some ⟨w.heap.size + 1 + j, 0, none⟩) (rowF P m j) := by
  intro d x hx
  have hd : d < m := by have := (List.getElem?_eq_some_iff.1 hx).1; simpa [rowF] using this
  have hx' : x = ((digit P j d : Nat) : Int) := by simpa [rowF, hd] using hx.symm
  have := outer_digit h hk hj (show d < n by omega)
  exact ⟨_, 0, rfl, (rowIs_keeps (h.done j hj) hk).lt, by rw [Nat.zero_add, this, hx']⟩
def differF (P x y : Nat) : Nat → Bool
  | 0 => false
  | k + 1 => differF P x y k || digit P k x != digit P k y
theorem differ_spec {P x y K : Nat} (hP : 0 < P) (hx : x < pw P K) (hy : y < pw P K) : differF P x y K = (x != y) := by
  cases h : differF P x y K
  · have hall : ∀ k, k < K → digit P k x = digit P k y := by
      have : ∀ m, differF P x y m = false → ∀ k, k < m → digit P k x = digit P k y := by
        intro m
        induction m with
        | zero => intro _ k hk; omega
        | succ m ih =>
          intro h k hk
          simp only [differF, Bool.or_eq_false_iff, bne_eq_false_iff_eq] at h
          by_cases e : k = m
          · subst e; exact h.2
          · exact ih h.1 k (by omega)
      exact this K h
    have := digits_inj hP hx hy hall
    simp [this]
  · have hne : x ≠ y := by
      rintro rfl
      have : ∀ m, differF P x x m = false := by
        intro m
        induction m with
        | zero => rfl
        | succ m ih => simp [differF, ih]
      rw [this] at h; cases h
    simp [hne]
set_option maxHeartbeats 4000000 in
set_option maxRecDepth 100000 in
theorem schemes_in (P k n x y : Nat) (a0 a1 a2 a3 a4 : Int) (w : World) (h0 : 0 ≤ a0) (h0' : a0 ≤ 255) (h1 : 0 ≤ a1) (h1' : a1 ≤ 255) (h2 : 0 ≤ a2) (h2' : a2 ≤ 65535) (h3 : 0 ≤ a3) (h3' : a3 ≤ 65535) (h4 : 0 ≤ a4) (h4' : a4 ≤ 65535)
    (eP : 2 + a0 % 63 = (P : Int)) (ek : 1 + a1 % 4 = (k : Int)) (en : 1 + a2 % 2000 = (n : Int)) (ex : a3 % (n : Int) = (x : Int)) (ey : a4 % (n : Int) = (y : Int)) (hx : x < n) (hy : y < n) : Calls Try.prog 7 #[.int .u8 a0, .int .u8 a1, .int .u16 a2, .int .u16 a3, .int .u16 a4] w (BoolPost true w) := by
  have q1 : 2 ≤ P := by omega
  have q2 : P ≤ 64 := by omega
  have q3 : 1 ≤ k := by omega
  have q4 : k ≤ 4 := by omega
  have q5 : n ≤ 2000 := by omega
  have q6 : 1 ≤ n := by omega
  have q6i : (1 : Int) ≤ (n : Int) := by omega
  have EP := Lib.hid eP; clear eP
  by_cases hle : n ≤ pw P k
  · have HS := Lib.hid (fun w => scheme_out P k n w q1 q2 q3 q4 q5 hle)
    have HS2 := Lib.hid (fun w => scheme_ok P k x w q1 q2 q3 q4 (by omega) (by omega))
    have HDF := Lib.hid (differ_spec (P := P) (K := k) (x := x) (y := y) (by omega) (by omega) (by omega))
    clear hle
    go_enter Try.func7, Try.ntmps7
    go_wp2_with (first | (go_at_call 11; (with_reducible refine (head_any _).mono ?_); rintro e w1 ⟨rfl, hk1⟩) | (go_at_call 23; (with_reducible refine (base_any a0 _ h0 h0' P EP.out).mono ?_); rintro e w2 ⟨rfl, rfl⟩))
    refine (HS.out _).mono ?_
    rintro e w3 ⟨rfl, hO⟩
    have HO := Lib.hid hO
    have K3 := Lib.hid (hk1.trans (since_keeps hO.since))
    obtain ⟨g, hg⟩ : ∃ g, w1.heap.size = g := ⟨_, rfl⟩
    rw [hg]
    have HG := Lib.hid hg
    clear hO hk1 hg
    have u0 : ((k : Int) != (k : Int)) = false := by simp
    have u0' : (k != k) = false := by simp
    have u1 : ((n : Int) != (n : Int)) = false := by simp
    have u1' : (n != n) = false := by simp
    go_wp2_with fail
    go_loopw [18, 19] (fun v i wr => ∃ j : Nat, j ≤ k ∧ i = .int .i64 (j : Int) ∧ v = .bool (differF P x y j) ∧ Keeps w3 wr) (fun _ i _ => k - (intOf i).toNat)
    case atStart => exact ⟨0, by omega, rfl, rfl, Keeps.refl _⟩
    case round =>
      obtain ⟨j, hj, rfl, rfl, hK⟩ := hrel
      by_cases hjk : j < k
      · have r0 := outer_cell HO.out hK hjk
        have r1 := outer_digit HO.out hK hjk hx
        have r2 := outer_digit HO.out hK hjk hy
        rw [HG.out] at r0 r1 r2
        have hji : (j : Int) < (k : Int) := by omega
        have hj0 : (0 : Int) ≤ (j : Int) := by omega
        have hjw : IntKind.i64.wrap ((j : Int) + 1) = (j : Int) + 1 := IntWalk.i64_in _ (by omega)
        have hxi : (x : Int) < (n : Int) := by omega
        have hyi : (y : Int) < (n : Int) := by omega
        cases hd : differF P x y j
        · cases hdd : (digit P j x != digit P j y)
          · have HD := Lib.hid (show differF P x y (j + 1) = false by simp [differF, hd, hdd])
            have e1 : (((digit P j x : Nat) : Int) != ((digit P j y : Nat) : Int)) = false := by simp at hdd ⊢; omega
            clear hd hdd
            go_wp2_with fail
            go_quiet (fail)
            go_wp2_with fail
            go_roundw
            case rel => exact ⟨j + 1, by omega, by go_num, by rw [HD.out], hK.drewN _⟩
            case measure => simp [intOf]; omega
          · have HD := Lib.hid (show differF P x y (j + 1) = true by simp [differF, hd, hdd])
            have e1 : (((digit P j x : Nat) : Int) != ((digit P j y : Nat) : Int)) = true := by simp at hdd ⊢; omega
            clear hd hdd
            go_wp2_with fail
            go_quiet (fail)
            go_wp2_with fail
            go_roundw
            case rel => exact ⟨j + 1, by omega, by go_num, by rw [HD.out], hK.drewN _⟩
            case measure => simp [intOf]; omega
        · have HD := Lib.hid (show differF P x y (j + 1) = true by simp [differF, hd])
          clear hd
          go_wp2_with fail
          go_quiet (fail)
          go_wp2_with fail
          go_roundw
          case rel => exact ⟨j + 1, by omega, by go_num, by rw [HD.out], hK.drewN _⟩
          case measure => simp [intOf]; omega
      · obtain rfl : j = k := by omega
        rw [HDF.out]
        have hni : ((x : Int) != (y : Int)) = (x != y) := by
          by_cases e : x = y
          · subst e; simp
          · have e2 : (x : Int) ≠ (y : Int) := by omega
            rw [bne_iff_ne.2 e, bne_iff_ne.2 e2]
        have HSL := Lib.hid (schemeF_len P j x)
        cases hxy : (x != y)
        all_goals
          rw [hxy] at hni
          go_wp2_with (go_at_call 23; (with_reducible refine (base_any a0 _ h0 h0' P EP.out).mono ?_); rintro e w2 ⟨rfl, rfl⟩)
          refine (HS2.out _).mono ?_
          rintro e w4 ⟨A4, c4, rfl, q4', hk4⟩
          rw [HSL.out]
          have Q4 := Lib.hid q4'; have KW := Lib.hid (hK.trans hk4)
          clear q4' hk4
          go_wp2_with fail
          go_loopw [22] (fun i wi => ∃ t : Nat, t ≤ j ∧ i = .int .i64 (t : Int) ∧ Keeps w4 wi) (fun i _ => j - (intOf i).toNat)
          case atStart => exact ⟨0, by omega, rfl, Keeps.refl _⟩
          case round =>
            obtain ⟨t, ht, rfl, hK4⟩ := hrel
            by_cases htj : t < j
            · have hl : (schemeF P j x)[t]? = some (rowF P x t) := by simp [schemeF, htj]
              obtain ⟨b, off, A5, c5, rfl, hb, ca, hx5⟩ := (Q4.out.keep hK4) t _ hl
              have hr0 := outer_cell HO.out (KW.out.trans hK4) htj
              have hgl : g < wr.heap.size := by rw [← HG.out]; exact World.block_lt_of_cell? _ _ hr0
              have hy5 := outer_nums HO.out (KW.out.trans hK4) htj (show x ≤ n by omega)
              rw [HG.out] at hr0 hy5
              have hlx : x = (rowF P x t).length := by simp [rowF]
              rw [← hlx] at ca
              have HLX := Lib.hid hlx
              have ha := After.cell ca hb
              have hb2 := After.cell hr0 hgl
              have HX5 := Lib.hid hx5; have HY5 := Lib.hid hy5
              have h5 : (rowF P x t).length ≤ 1000000000000 := by rw [← hlx]; omega
              have hti : (t : Int) < (j : Int) := by omega
              have ht0 : (0 : Int) ≤ (t : Int) := by omega
              have htw : IntKind.i64.wrap ((t : Int) + 1) = (t : Int) + 1 := IntWalk.i64_in _ (by omega)
              have hxn : (x : Int) ≤ (n : Int) := by omega
              clear hl hlx hx5 hy5 ca hr0
              go_wp2_with fail
              refine wp_region_after (by kernel_rfl) (by kernel_rfl) ?_
              repeat (go_big_quiet_step ((go_at_call 20; with_reducible exact after_call (ints_any (rowF P x t) (rowF P x t) _ _ x _ x _ _ (HX5.out.keep (After.ok _)) (HY5.out.keep (After.ok _)) h5 h5 HLX.out HLX.out true (same_refl _)))))
              refine wpQuiet_nil ?_
              intro _ hw'
              obtain ⟨⟨W1, hk1⟩, rfl⟩ := hw'
              go_wp2
              go_roundw
              case rel => exact ⟨t + 1, by omega, by go_num, hK4.trans hk1⟩
              case measure => simp [intOf]; omega
            · go_wp2_with fail
              go_ret
              exact bool_post rfl ((K3.out.trans KW.out).trans hK4)
  · have HS := Lib.hid (fun w => scheme_few P k n w q1 q2 q3 q4 q5 (by omega))
    clear hle
    go_enter Try.func7, Try.ntmps7
    go_wp2_with (first | (go_at_call 11; (with_reducible refine (head_any _).mono ?_); rintro e w1 ⟨rfl, hk1⟩) | (go_at_call 23; (with_reducible refine (base_any a0 _ h0 h0' P EP.out).mono ?_); rintro e w2 ⟨rfl, rfl⟩))
    refine (HS.out _).mono ?_
    rintro e w3 ⟨A3, c3, rfl, q3', hk3⟩
    simp only [List.length_nil]
    clear q3'
    go_wp2_with fail
    go_ret
    exact bool_post rfl (hk1.trans hk3)
theorem law_schemes (a0 a1 a2 a3 a4 : Int) (w : World) (h0 : 0 ≤ a0) (h0' : a0 ≤ 255) (h1 : 0 ≤ a1) (h1' : a1 ≤ 255) (h2 : 0 ≤ a2) (h2' : a2 ≤ 65535) (h3 : 0 ≤ a3) (h3' : a3 ≤ 65535) (h4 : 0 ≤ a4) (h4' : a4 ≤ 65535) :
    Calls Try.prog 7 #[.int .u8 a0, .int .u8 a1, .int .u16 a2, .int .u16 a3, .int .u16 a4] w (BoolPost true w) := by
  have hn : (0 : Int) < 1 + a2 % 2000 := by omega
  have e1 := Int.emod_nonneg a3 (show 1 + a2 % 2000 ≠ 0 by omega)
  have e2 := Int.emod_lt_of_pos a3 hn
  have e3 := Int.emod_nonneg a4 (show 1 + a2 % 2000 ≠ 0 by omega)
  have e4 := Int.emod_lt_of_pos a4 hn
  obtain ⟨n, en⟩ : ∃ n : Nat, 1 + a2 % 2000 = (n : Int) := ⟨(1 + a2 % 2000).toNat, by omega⟩
  rw [en] at e1 e2 e3 e4
  exact schemes_in (2 + a0 % 63).toNat (1 + a1 % 4).toNat n (a3 % (n : Int)).toNat (a4 % (n : Int)).toNat a0 a1 a2 a3 a4 w h0 h0' h1 h1' h2 h2' h3 h3' h4 h4' (by omega) (by omega) en (by omega) (by omega) (by omega) (by omega)
end Go.Proofs.Ytkfcebojfnnieaa
