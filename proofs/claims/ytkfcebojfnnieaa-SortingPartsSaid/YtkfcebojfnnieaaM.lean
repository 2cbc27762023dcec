import Derived.Test.YtkfcebojfnnieaaL
import Derived.Test.YtkfcebojfnnieaaRows
import Derived.WalkKit
import Derived.WalkSpells
import Derived.WalkLawsBesides
import Derived.Laws.EntriesVeiled
import Derived.ProofKit
import Derived.OpenShut
import Derived.Lib.Hide
import Derived.BigQuiet
import Derived.Deep.QuietTactic
import Derived.Below
import Derived.Laws.OwnMore
import Derived.Deep.AppendLies
import Derived.Deep.Draws
import Derived.Laws.Rows
import Derived.Maps.AppendAt
import Derived.RegionTactic
import Derived.OwnWalk
import Derived.Deep.RegionHeld3
namespace Go.Proofs.Ytkfcebojfnnieaa
open Go.ChangeShapes Go.WideShapes Go.ChangeAt Go.RowKit
set_option linter.unusedSimpArgs false
set_option linter.unusedVariables false
theorem wid_scheme {P k n : Nat} (hk : 1 ≤ k) : wid (schemeF P k n) = n := by
  obtain ⟨j, rfl⟩ : ∃ j, k = j + 1 := ⟨k - 1, by omega⟩
  have h : (schemeF P (j + 1) n)[0]? = some (rowF P n 0) := by simp [schemeF]
  rw [wid_of h]; simp [rowF]
theorem okRun_scheme {P k n : Nat} {d : List Int} (q1 : 2 ≤ P) (q2 : P ≤ 64) (q3 : 1 ≤ k) (q4 : k ≤ 4) (q5 : n ≤ 2000) (hd : ∀ x ∈ d, 0 ≤ x ∧ x < (n : Int)) : okRun (P : Int) (schemeF P k n) d = true := by
  simp only [okRun, formedB, wid_scheme q3, machB, schemeF_len, Bool.and_eq_true, decide_eq_true_eq]
  refine ⟨⟨⟨by omega, by omega⟩, ⟨q3, q4⟩, q5, ?_⟩, row_of hd⟩
  rw [List.all_eq_true]
  intro r hr
  have h1 := schemeF_ok (n := n) (k := k) (show 0 < P by omega) r hr
  simp only [okRow, Bool.and_eq_true, decide_eq_true_eq]
  exact ⟨h1.1, row_of h1.2⟩
theorem run_scheme (P k n : Nat) (d : List Int) (A B : Option Addr) (m c m' c' : Nat) (w : World) (hs : NumRows w w.heap.size A (schemeF P k n)) (hd : Nums .i64 w w.heap.size B d) (hn' : d.length ≤ 5000) (hln : m = k) (hlm : m' = d.length)
    (q1 : 2 ≤ P) (q2 : P ≤ 64) (q3 : 1 ≤ k) (q4 : k ≤ 4) (q5 : n ≤ 2000) (hb : ∀ x ∈ d, 0 ≤ x ∧ x < (n : Int)) : Calls Try.prog 17 #[.int .i64 (P : Int), .slice A m c, .slice B m' c'] w (RunPost (runF P (schemeF P k n) d) 0 w) := by
  have h := srun_any P (schemeF P k n) d A B m c m' c' w hs hd (by rw [schemeF_len]; omega) (fun r hr => by rw [schemeF_mem hr]; omega) hn' (by rw [schemeF_len]; exact hln) hlm
  rw [if_pos (okRun_scheme q1 q2 q3 q4 q5 hb), Int.toNat_natCast] at h
  exact h
set_option maxHeartbeats 4000000 in
set_option maxRecDepth 100000 in
theorem sorts_in (P k n : Nat) (a0 a1 a2 : Int) (l : List Int) (A : Option Addr) (c m : Nat) (w : World) (h0 : 0 ≤ a0) (h0' : a0 ≤ 255) (h1 : 0 ≤ a1) (h1' : a1 ≤ 255) (h2 : 0 ≤ a2) (h2' : a2 ≤ 65535) (o : U16s w w.heap.size A l) (hm : m = l.length) (hm1 : m ≤ 100)
    (eP : 2 + a0 % 63 = (P : Int)) (ek : 1 + a1 % 4 = (k : Int)) (en : 1 + a2 % 2000 = (n : Int)) : Calls Try.prog 5 #[.int .u8 a0, .int .u8 a1, .int .u16 a2, .slice A m c] w (BoolPost true w) := by
  have q1 : 2 ≤ P := by omega
  have q2 : P ≤ 64 := by omega
  have q3 : 1 ≤ k := by omega
  have q4 : k ≤ 4 := by omega
  have q5 : n ≤ 2000 := by omega
  have q6 : 1 ≤ n := by omega
  have EP := Lib.hid eP; clear eP
  have t1 : decide (100 < m) = false := by simp; omega
  have t1' : decide ((100 : Int) < (m : Int)) = false := by simp; omega
  have HM := Lib.hid hm; have O := Lib.hid o
  have L1 : l.length ≤ 1000000000000 := by omega
  clear hm o
  by_cases hle : n ≤ pw P k
  · have hl := scheme_ok P k n
    have HS := Lib.hid (fun w => scheme_ok P k n w q1 q2 q3 q4 q5 hle)
    obtain ⟨dest, hdest⟩ : ∃ d, smallF l n = d := ⟨_, rfl⟩
    have dl : m = dest.length := by rw [← hdest, small_len]; exact HM.out
    have db : ∀ x ∈ dest, 0 ≤ x ∧ x < (n : Int) := by rw [← hdest]; exact small_bounds q6
    have hrl := runF_length (P := P) (dest := dest) (s := schemeF P k n) (by omega) (schemeF_ok (n := n) (by omega))
    rw [← dl] at hrl
    have hso := run_scheme_sorted (P := P) (k := k) (n := n) (dest := dest) (by omega) db hle
    have hin : ∀ x ∈ runF P (schemeF P k n) dest, 0 ≤ x ∧ x < (dest.length : Int) := fun x hx => runF_sub hx
    obtain ⟨order, hord⟩ : ∃ o, runF P (schemeF P k n) dest = o := ⟨_, rfl⟩
    rw [hord] at hrl hso hin
    have DL := Lib.hid dl; have DB := Lib.hid db; have HD := Lib.hid hdest; have HRL := Lib.hid hrl.symm; have HSO := Lib.hid hso; have HIN := Lib.hid hin; have HORD := Lib.hid hord
    have hd5 : dest.length ≤ 5000 := by omega
    have hle' := Lib.hid hle
    have HSL := Lib.hid (schemeF_len P k n)
    clear hl dl db hdest hrl hso hin hord hle
    go_enter Try.func5, Try.ntmps5
    go_wp2_with (first | (go_at_call 11; (with_reducible refine (head_any _).mono ?_); rintro e w1 ⟨rfl, hk1⟩) | (go_at_call 23; (with_reducible refine (base_any a0 _ h0 h0' P EP.out).mono ?_); rintro e w2 ⟨rfl, rfl⟩))
    refine (HS.out _).mono ?_
    rintro e w3 ⟨A3, c3, rfl, q3', hk3⟩
    rw [HSL.out]
    have Q3 := Lib.hid q3'; have K3 := Lib.hid (hk1.trans hk3)
    clear q3' hk1 hk3
    go_wp2_with fail
    refine (small_any l A m c n _ (O.out.1.keep K3.out) O.out.2 L1 HM.out q6 (by omega)).mono ?_
    rintro e w4 ⟨A4, c4, rfl, q4', hk4⟩
    rw [HD.out] at q4' ⊢
    rw [← DL.out]
    have Q3' := Lib.hid (Q3.out.keep hk4); have Q4 := Lib.hid q4'; have K4 := Lib.hid (K3.out.trans hk4)
    clear q4' hk4 K3 Q3
    go_wp2_with (go_at_call 23; (with_reducible refine (base_any a0 _ h0 h0' P EP.out).mono ?_); rintro e w2 ⟨rfl, rfl⟩)
    refine (run_scheme P k n dest A3 A4 k c3 m c4 _ Q3'.out Q4.out hd5 rfl DL.out q1 q2 q3 q4 q5 DB.out).mono ?_
    rintro e w5 ⟨A5, c5, rfl, q5', hk5⟩
    rw [HORD.out] at q5' ⊢
    rw [← HRL.out]
    have Q5 := Lib.hid q5'; have Q4' := Lib.hid (Q4.out.keep hk5); have K5 := Lib.hid (K4.out.trans hk5)
    clear q5' hk5 K4 Q4
    go_wp2_with fail
    refine (stable_yes order dest A5 A4 m c5 m c4 _ Q5.out Q4'.out (by rw [← HRL.out]; omega) (by omega) HRL.out DL.out HIN.out HSO.out).mono ?_
    rintro e w6 ⟨rfl, hk6⟩
    go_wp2_with fail
    go_ret
    exact bool_post rfl (K5.out.trans hk6)
  · have HS := Lib.hid (fun w => scheme_few P k n w q1 q2 q3 q4 q5 (by omega))
    clear hle
    go_enter Try.func5, Try.ntmps5
    go_wp2_with (first | (go_at_call 11; (with_reducible refine (head_any _).mono ?_); rintro e w1 ⟨rfl, hk1⟩) | (go_at_call 23; (with_reducible refine (base_any a0 _ h0 h0' P EP.out).mono ?_); rintro e w2 ⟨rfl, rfl⟩))
    refine (HS.out _).mono ?_
    rintro e w3 ⟨A3, c3, rfl, q3', hk3⟩
    simp only [List.length_nil]
    clear q3'
    go_wp2_with fail
    go_ret
    exact bool_post rfl (hk1.trans hk3)
set_option maxHeartbeats 1000000 in
theorem law_sorts (a0 a1 a2 : Int) (l : List Int) (A : Option Addr) (c : Nat) (w : World) (h0 : 0 ≤ a0) (h0' : a0 ≤ 255) (h1 : 0 ≤ a1) (h1' : a1 ≤ 255) (h2 : 0 ≤ a2) (h2' : a2 ≤ 65535) (o : U16s w w.heap.size A l) (len : l.length ≤ maxLen) :
    Calls Try.prog 5 #[.int .u8 a0, .int .u8 a1, .int .u16 a2, .slice A l.length c] w (BoolPost true w) := by
  unfold maxLen at len
  by_cases hm : l.length ≤ 100
  · exact sorts_in (2 + a0 % 63).toNat (1 + a1 % 4).toNat (1 + a2 % 2000).toNat a0 a1 a2 l A c _ w h0 h0' h1 h1' h2 h2' o rfl hm (by omega) (by omega) (by omega)
  · generalize l.length = m at *
    have t1 : decide (100 < m) = true := by simp; omega
    have t1' : decide ((100 : Int) < (m : Int)) = true := by simp; omega
    clear hm o
    go_enter Try.func5, Try.ntmps5
    go_wp2_with (go_at_call 11; (with_reducible refine (head_any _).mono ?_); rintro e w1 ⟨rfl, hk1⟩)
    go_ret
    exact bool_post rfl hk1
end Go.Proofs.Ytkfcebojfnnieaa
