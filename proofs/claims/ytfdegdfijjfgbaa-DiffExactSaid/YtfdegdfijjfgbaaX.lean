import Derived.Test.YtfdegdfijjfgbaaP
import Derived.Deep.CutRange
import Derived.Test.YtfdegdfijjfgbaaRows
import Derived.WalkKit
import Derived.WalkSpells
import Derived.WalkLawsBesides
import Derived.Laws.EntriesVeiled
import Derived.ProofKit
import Derived.OpenShut
import Derived.Lib.Hide
import Derived.BigQuiet
import Derived.Deep.QuietTactic
import Derived.Below
import Derived.Laws.OwnMore
import Derived.Deep.AppendLies
import Derived.Deep.Draws
import Derived.Laws.Rows
import Derived.Maps.AppendAt
import Derived.RegionTactic
import Derived.OwnWalk
import Derived.Deep.RegionHeld3
namespace Go.Proofs.Ytfdegdfijjfgbaa
open Go.ChangeShapes Go.WideShapes Go.ChangeAt Go.RowKit
set_option linter.unusedSimpArgs false
set_option linter.unusedVariables false
set_option maxHeartbeats 8000000 in
set_option maxRecDepth 100000 in
theorem law_exact (n : Int) (l : List Bd) (A : Option Addr) (c : Nat) (fr tt : Int) (w : World) (o : Bnds w w.heap.size A l) (len : l.length ≤ maxLen) (g0 : 0 ≤ fr) (g1 : fr ≤ 255) (g2 : 0 ≤ tt) (g3 : tt ≤ 255) :
    Calls Try.prog 5 #[.int .i64 n, .slice A l.length c, .int .u8 fr, .int .u8 tt] w (BoolPost true w) := by
  unfold maxLen at len
  obtain ⟨m, hm⟩ : ∃ m, m = l.length := ⟨_, rfl⟩
  rw [← hm] at len ⊢
  have HM := Lib.hid hm; have O := Lib.hid o
  clear o hm
  cases hf : fewB n l
  · have HF := Lib.hid hf; clear hf
    go_enter Try.func5, Try.ntmps5
    go_wp2_with (first | (go_at_call 9; (with_reducible refine (head_any _).mono ?_); rintro e w1 ⟨rfl, hk1⟩) | (go_at_call 10; (with_reducible refine (few_any n l A m c _ HM false HF).mono ?_); rintro e w2 ⟨rfl, hk2⟩))
    go_ret
    exact bool_post rfl (hk1.trans hk2)
  obtain ⟨f1, f2⟩ := fewB_spec hf
  have HF := Lib.hid hf; clear hf
  by_cases q1 : 39 < m
  · have q1' : decide (39 < m) = true := by simpa using q1
    have q1'' : decide ((39 : Int) < (m : Int)) = true := by simp; omega
    go_enter Try.func5, Try.ntmps5
    go_wp2_with (first | (go_at_call 9; (with_reducible refine (head_any _).mono ?_); rintro e w1 ⟨rfl, hk1⟩) | (go_at_call 10; (with_reducible refine (few_any n l A m c _ HM true HF).mono ?_); rintro e w2 ⟨rfl, hk2⟩))
    go_ret
    exact bool_post rfl (hk1.trans hk2)
  have q1' : decide (39 < m) = false := by simpa using q1
  have q1'' : decide ((39 : Int) < (m : Int)) = false := by simp; omega
  cases hv : validB n l
  · have HV := Lib.hid hv; clear hv
    go_enter Try.func5, Try.ntmps5
    go_wp2_with (first | (go_at_call 9; (with_reducible refine (head_any _).mono ?_); rintro e w1 ⟨rfl, hk1⟩) | (go_at_call 10; (with_reducible refine (few_any n l A m c _ HM true HF).mono ?_); rintro e w2 ⟨rfl, hk2⟩) | (go_at_call 11; (with_reducible refine (rvalid_is n l A m c _ (O.out.keep (hk1.trans hk2)) (by omega) HM false HV).mono ?_); rintro e w3 ⟨rfl, hk3⟩))
    go_ret
    exact bool_post rfl ((hk1.trans hk2).trans hk3)
  have f3 : l.length ≤ 400 := by omega
  by_cases q2 : n = 0
  · subst q2
    have HV := Lib.hid hv; clear hv f2
    go_enter Try.func5, Try.ntmps5
    go_wp2_with (first | (go_at_call 9; (with_reducible refine (head_any _).mono ?_); rintro e w1 ⟨rfl, hk1⟩) | (go_at_call 10; (with_reducible refine (few_any 0 l A m c _ HM true HF).mono ?_); rintro e w2 ⟨rfl, hk2⟩) | (go_at_call 11; (with_reducible refine (rvalid_is 0 l A m c _ (O.out.keep (hk1.trans hk2)) f3 HM true HV).mono ?_); rintro e w3 ⟨rfl, hk3⟩))
    go_ret
    exact bool_post rfl ((hk1.trans hk2).trans hk3)
  have q2' : (n == 0) = false := by simpa using q2
  obtain ⟨b0, d, hs, hc⟩ := close_law hv f1 f3
  obtain ⟨ls, hls⟩ : ∃ ls, (if b0 = 0 then matF n.toNat d else []) = ls := ⟨_, rfl⟩
  have hn0 := (valid_n hv).1
  have HV := Lib.hid hv
  have F2 := Lib.hid f2
  have hm40 : m ≤ 39 := by omega
  unfold CloseSays at hs
  rcases hs with ⟨rfl, hs, hd⟩ | ⟨rfl, hs⟩
  case inr =>
    have HC := Lib.hid hc
    clear hv hc hls f2 hs
    go_enter Try.func5, Try.ntmps5
    go_wp2_with (first | (go_at_call 9; (with_reducible refine (head_any _).mono ?_); rintro e w1 ⟨rfl, hk1⟩) | (go_at_call 10; (with_reducible refine (few_any n l A m c _ HM true HF).mono ?_); rintro e w2 ⟨rfl, hk2⟩) | (go_at_call 11; (with_reducible refine (rvalid_is n l A m c _ (O.out.keep (hk1.trans hk2)) f3 HM true HV).mono ?_); rintro e w3 ⟨rfl, hk3⟩) | (go_at_call 12; (with_reducible refine (close_no HC A m c _ (O.out.keep ((hk1.trans hk2).trans hk3)) HM).mono ?_); rintro e w4 ⟨B1, d1, rfl, q1, hk4⟩))
    go_ret
    exact bool_post rfl (((hk1.trans hk2).trans hk3).trans hk4)
  obtain ⟨N, rfl⟩ : ∃ N : Nat, n = (N : Int) := ⟨n.toNat, by omega⟩
  rw [if_pos rfl, Int.toNat_natCast] at hls
  rw [Int.toNat_natCast] at hd
  have hN1 : 1 ≤ N := by omega
  have hNi : (1 : Int) ≤ (N : Int) := by omega
  have hN12 : N ≤ 12 := by omega
  obtain ⟨F, rfl⟩ : ∃ F : Nat, fr = (F : Int) := ⟨fr.toNat, by omega⟩
  obtain ⟨T, rfl⟩ : ∃ T : Nat, tt = (T : Int) := ⟨tt.toNat, by omega⟩
  obtain ⟨i, hi⟩ : ∃ i, F % N = i := ⟨_, rfl⟩
  obtain ⟨k, hk⟩ : ∃ k, T % N = k := ⟨_, rfl⟩
  have hiN : i < N := by rw [← hi]; exact Nat.mod_lt _ hN1
  have hkN : k < N := by rw [← hk]; exact Nat.mod_lt _ hN1
  have hi' : (F : Int) % (N : Int) = (i : Int) := by rw [← hi]; simp
  have hk' : (T : Int) % (N : Int) = (k : Int) := by rw [← hk]; simp
  have hi2 : (F : Int).tmod (N : Int) = (i : Int) := by rw [Int.tmod_eq_emod_of_nonneg (by omega)]; exact hi'
  have htk : (T : Int).tmod (N : Int) = (k : Int) := by rw [Int.tmod_eq_emod_of_nonneg (by omega)]; exact hk'
  clear hi hk
  have hii : (i : Int) < (N : Int) := by omega
  have hki : (k : Int) < (N : Int) := by omega
  have hi0 : (0 : Int) ≤ (i : Int) := by omega
  have hk0 : (0 : Int) ≤ (k : Int) := by omega
  have hFw : IntKind.i64.wrap (F : Int) = (F : Int) := IntWalk.i64_in _ (by omega)
  have hTw : IntKind.i64.wrap (T : Int) = (T : Int) := IntWalk.i64_in _ (by omega)
  have hiw : IntKind.i64.wrap (i : Int) = (i : Int) := IntWalk.i64_in _ (by omega)
  have hkw : IntKind.i64.wrap (k : Int) = (k : Int) := IntWalk.i64_in _ (by omega)
  obtain ⟨b, hb⟩ : ∃ b, d i k = b := ⟨_, rfl⟩
  have HD := Lib.hid hd; have HNN := Lib.hid hs
  have HMF := Lib.hid hls
  have HC := Lib.hid hc; have HBB := Lib.hid hb
  have hlsN : ls.length = N := by rw [← hls]; exact matF_len N d
  have HLN := Lib.hid hlsN
  have hrow := Lib.hid (fun (A : Option Addr) (w : World) (h : NumRows w w.heap.size A ls) => by
    rw [← hls] at h
    obtain ⟨bb, off, A', c', e, hlt, h0, h1⟩ := h i _ (matF_row hiN)
    obtain ⟨b2, off2, e2, hlt2, h2⟩ := h1 k _ (row_at hkN)
    rw [List.length_map, List.length_range] at h0
    rw [hb] at h2
    exact (⟨bb, off, A', c', e, h0, b2, off2, e2, h2⟩ : ∃ bb off A' c', A = some ⟨bb, off, none⟩ ∧ w.cell? ⟨bb, off + i, none⟩ = some (.slice A' N c') ∧ ∃ b2 off2, A' = some ⟨b2, off2, none⟩ ∧ w.cell? ⟨b2, off2 + k, none⟩ = some (.int .i64 b)))
  clear hd hs hls hc hb hv f2
  go_enter Try.func5, Try.ntmps5
  go_upto_region 12 with (first | (go_at_call 9; (with_reducible refine (head_any _).mono ?_); rintro e w1 ⟨rfl, hk1⟩) | (go_at_call 10; (with_reducible refine (few_any N l A m c _ HM true HF).mono ?_); rintro e w2 ⟨rfl, hk2⟩) | (go_at_call 11; (with_reducible refine (rvalid_is N l A m c _ (O.out.keep (hk1.trans hk2)) f3 HM true HV).mono ?_); rintro e w3 ⟨rfl, hk3⟩) | (go_at_call 12; (with_reducible refine (close_yes HC HMF A m c _ (O.out.keep ((hk1.trans hk2).trans hk3)) HM).mono ?_); rintro e w4 ⟨B1, d1, rfl, q1, hk4⟩; have HQ := Lib.hid q1; clear q1; have hlN := HLN.out) | (go_at_call 13; (with_reducible refine (square_is N d B1 N d1 _ (by rw [HMF.out]; exact HQ.out) (by omega) rfl).mono ?_); rintro e w5 ⟨rfl, hk5⟩; obtain ⟨bb, off, A', c', rfl, r0, b2, off2, rfl, r1⟩ := hrow.out _ _ (HQ.out.keep hk5)))
  have K5 := Lib.hid ((((hk1.trans hk2).trans hk3).trans hk4).trans hk5)
  clear hk1 hk2 hk3 hk4 hk5 HQ
  by_cases t1 : 10000000 ≤ b
  · have t1' : decide (10000000 ≤ b) = true := by simpa using t1
    go_wp2_with fail
    go_ret
    exact bool_post rfl K5.out
  have t1' : decide (10000000 ≤ b) = false := by simpa using t1
  by_cases t2 : b ≤ -9999999
  · have t2' : decide (b ≤ -9999999) = true := by simpa using t2
    go_wp2_with fail
    go_ret
    exact bool_post rfl K5.out
  have t2' : decide (b ≤ -9999999) = false := by simpa using t2
  have hbw : IntKind.i64.wrap (-b) = -b := IntWalk.i64_in _ (by omega)
  have hbw2 : IntKind.i64.wrap (-b - 1) = -b - 1 := IntWalk.i64_in _ (by omega)
  have hv1 : validB (N : Int) (l ++ [⟨(k : Int), (i : Int), -b⟩]) = true := valid_app HV.out (by intro x hx; simp at hx; subst hx; simp [okBd, inR]; omega)
  have hv2 : validB (N : Int) (l ++ [⟨(k : Int), (i : Int), -b - 1⟩]) = true := valid_app HV.out (by intro x hx; simp at hx; subst hx; simp [okBd, inR]; omega)
  have hle : ∀ x : Bd, (l ++ [x]).length ≤ 400 := by intro x; have := F2.out; simp; omega
  obtain ⟨b1, d1', hs1, hc1⟩ := close_law hv1 f1 (hle _)
  obtain ⟨b2', d2', hs2, hc2⟩ := close_law hv2 f1 (hle _)
  have e1 : b1 = 0 := by
    rcases hs1 with ⟨h, _⟩ | ⟨_, h⟩
    · exact h
    · exact absurd (exact_ok HD.out HNN.out hiN b HBB.out) h
  have e2 : b2' = 240 := by
    rcases hs2 with ⟨_, h, _⟩ | ⟨h, _⟩
    · exact absurd h (exact_no HD.out b HBB.out (by unfold NoB; omega))
    · exact h
  subst e1 e2
  obtain ⟨ls1, hls1⟩ : ∃ ls1, matF N d1' = ls1 := ⟨_, rfl⟩
  have HC1 := Lib.hid hc1; have HC2 := Lib.hid hc2; have HLS1 := Lib.hid hls1
  have L0 := Lib.hid (show ([] : List Bd).length + l.length ≤ 1000000 by simp; omega)
  have L1 := Lib.hid (show l.length + [(⟨(k : Int), (i : Int), -b⟩ : Bd)].length ≤ 1000000 by simp; omega)
  have L2 := Lib.hid (show l.length + [(⟨(k : Int), (i : Int), -b - 1⟩ : Bd)].length ≤ 1000000 by simp; omega)
  have ONE := Lib.hid (fun (x : Bd) => show 1 = [x].length from rfl)
  have O0 := Lib.hid (OwnB.lit K5.out)
  have OL := Lib.hid (O.out.keep O0.out.2)
  clear hv1 hv2 hle hs1 hs2 hc1 hc2 hls1
  go_wp2_with (first | (at_builtin; refine (wpList_app rfl (.tmp 77) (.tmp 78) rfl _ [] rfl O0.out A m c l rfl OL.out HM L0 ?_); intro A' n' c' w6 ho6; clear O0 OL; replace ho6 : OwnB w w6 (.slice A' n' c') l := ho6; have O6 := Lib.hid (ho6.keep ((Keeps.refl w6).alloc (.cells #[.int .i64 (k : Int), .int .i64 (i : Int), .int .i64 (-b)] 32))); have X6 := Lib.hid (bnds_one w6 (k : Int) (i : Int) (-b)); clear ho6) | (at_builtin; refine (wpList_app rfl (.tmp 79) (.tmp 85) rfl _ l rfl O6.out _ _ _ [⟨(k : Int), (i : Int), -b⟩] rfl X6.out (ONE.out _) L1 ?_); intro A7 n7 c7 w7 ho7; have O7 := Lib.hid ho7; clear ho7 O6 X6) | (go_at_call 12; (with_reducible refine (close_yes HC1 HLS1 A7 n7 c7 _ O7.out.bnds.1 (Lib.hid O7.out.bnds.2)).mono ?_); rintro e w8 ⟨B8, d8, rfl, q8, hk8⟩; have K8 := Lib.hid (O7.out.2.trans hk8); clear q8 hk8 O7; have P0 := Lib.hid (OwnB.lit K8.out); have PL := Lib.hid (O.out.keep P0.out.2)) | (at_builtin; refine (wpList_app rfl (.tmp 92) (.tmp 93) rfl _ [] rfl P0.out A m c l rfl PL.out HM L0 ?_); intro A8 n8 c8 w9 ho8; clear P0 PL; replace ho8 : OwnB w w9 (.slice A8 n8 c8) l := ho8; have P6 := Lib.hid (ho8.keep ((Keeps.refl w9).alloc (.cells #[.int .i64 (k : Int), .int .i64 (i : Int), .int .i64 (-b - 1)] 32))); have Y6 := Lib.hid (bnds_one w9 (k : Int) (i : Int) (-b - 1)); clear ho8) | (at_builtin; refine (wpList_app rfl (.tmp 94) (.tmp 101) rfl _ l rfl P6.out _ _ _ [⟨(k : Int), (i : Int), -b - 1⟩] rfl Y6.out (ONE.out _) L2 ?_); intro A9 n9 c9 w9' ho9; have P9 := Lib.hid ho9; clear ho9 P6 Y6) | (go_at_call 12; (with_reducible refine (close_no HC2 A9 n9 c9 _ P9.out.bnds.1 (Lib.hid P9.out.bnds.2)).mono ?_); rintro e w10 ⟨B10, d10, rfl, q10, hk10⟩; have K10 := Lib.hid (P9.out.2.trans hk10); clear q10 hk10 P9))
  go_ret
  exact bool_post rfl K10.out
end Go.Proofs.Ytfdegdfijjfgbaa
