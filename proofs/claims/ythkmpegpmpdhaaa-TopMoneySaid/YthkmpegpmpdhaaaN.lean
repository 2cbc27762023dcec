/- Part of the proofs of TopMoney and TopOrders. Conditions: as stated in each theorem. -/
import Derived.Test.YthkmpegpmpdhaaaH
import Derived.Test.YthkmpegpmpdhaaaJ
import Derived.Test.YthkmpegpmpdhaaaE
import Derived.Test.YthkmpegpmpdhaaaL
import Derived.Deep.CutRange
import Derived.StillTailTactics
import Derived.Lib.SliceRun
import Derived.RangeFuncRecord
import Derived.Carry
import Derived.ChangeKeysEq
import Derived.Test.YthkmpegpmpdhaaaRows
import Derived.WalkKit
import Derived.WalkSpells
import Derived.WalkLawsBesides
import Derived.Laws.EntriesVeiled
import Derived.ProofKit
import Derived.OpenShut
import Derived.Lib.Hide
import Derived.BigQuiet
import Derived.Deep.QuietTactic
import Derived.Below
import Derived.Laws.OwnMore
import Derived.Deep.AppendLies
import Derived.Deep.Draws
import Derived.Laws.Rows
import Derived.Maps.AppendAt
import Derived.RegionTactic
import Derived.OwnWalk
import Derived.Deep.RegionHeld3
namespace Go.Proofs.Ythkmpegpmpdhaaa
open Go.ChangeShapes Go.WideShapes Go.ChangeAt Go.RowKit
set_option linter.unusedSimpArgs false
set_option linter.unusedVariables false
theorem split_ten : splitF 10 [1, 1, 1] = [4, 3, 3] := by decide +kernel
theorem bal_three : balL 3 [⟨0, 1, 4, ⟨#[]⟩⟩, ⟨0, 2, 3, ⟨#[]⟩⟩] = [-7, 4, 3] := by decide +kernel
theorem net_three : netF 3 [-7, 4, 3] = [⟨0, 1, 4⟩, ⟨0, 2, 3⟩] := by rfl
theorem run_eq_mv (w : World) : (Op.equalIn 10000 44 (.agg #[.int .i64 0, .int .i64 1, .int .i64 4]) (.agg #[.int .i64 0, .int .i64 1, .int .i64 4])).run Try.prog w = .ok true w := by kernel_rfl
theorem int3 {w : World} {B : Nat} {A : Option Addr} {x y z : Int} (h : RecIn intR w B A [x, y, z]) : ∃ b off, A = some ⟨b, off, none⟩ ∧ w.cell? ⟨b, off, none⟩ = some (.int .i64 x) ∧ w.cell? ⟨b, off + 1, none⟩ = some (.int .i64 y) ∧ w.cell? ⟨b, off + 2, none⟩ = some (.int .i64 z) := by
  obtain ⟨b, off, rfl, _, h0⟩ := h.int (j := 0) rfl
  obtain ⟨b1, off1, e1, _, h1⟩ := h.int (j := 1) rfl
  obtain ⟨b2, off2, e2, _, h2⟩ := h.int (j := 2) rfl
  cases e1; cases e2
  exact ⟨b, off, rfl, h0, h1, h2⟩
theorem mv0 {w : World} {B : Nat} {A : Option Addr} {x : Mv} {l : List Mv} (h : RecIn mvR w B A (x :: l)) : ∃ b off, A = some ⟨b, off, none⟩ ∧ w.cell? ⟨b, off, none⟩ = some (.int .i64 (x.f : Int)) ∧ w.cell? ⟨b, off + 1, none⟩ = some (.int .i64 (x.t : Int)) ∧ w.cell? ⟨b, off + 2, none⟩ = some (.int .i64 x.a) := by
  obtain ⟨b, off, rfl, _, h0, h1, h2⟩ := h.mv (j := 0) rfl
  rw [Nat.zero_mul, Nat.add_zero] at h0 h1 h2
  exact ⟨b, off, rfl, h0, h1, h2⟩
theorem split_3 (A : Option Addr) (w : World) (hl : RecIn intR w w.heap.size A [1, 1, 1]) (hb : Hid (∀ x ∈ [(1 : Int), 1, 1], 0 ≤ x ∧ x ≤ 1000000)) : Calls Try.prog 6 #[.int .i64 10, .slice A 3 3] w (IntsPost [4, 3, 3] 0 w) := by
  rw [← split_ten]; exact split_yes 10 _ A 3 3 w hl (Lib.hid rfl) (by omega) (Lib.hid (by omega)) hb (Lib.hid (by simp [sumL]))
theorem net_3 (A : Option Addr) (c : Nat) (w : World) (hl : RecIn intR w w.heap.size A [-7, 4, 3]) : Calls Try.prog 8 #[.slice A 3 c] w fun e w' => ∃ B c', e = .returned (.tuple #[.slice B 2 c', .int .i64 0]) ∧ RecIn mvR w' w'.heap.size B [⟨0, 1, 4⟩, ⟨0, 2, 3⟩] ∧ Keeps w w' := by
  refine (net_any [-7, 4, 3] A 3 c 1000000000 w hl (Lib.hid rfl) (by omega) (by omega) (Lib.hid (by simp [sumL])) (by omega) (Lib.hid ?_)).mono ?_
  · intro k hk; simp at hk; rcases k with _ | _ | _ | k <;> simp [at0] <;> omega
  · rintro e w' ⟨B, c', t, rfl, h1, _, h2, h3⟩
    rw [show ([-7, 4, 3] : List Int).length = 3 from rfl, net_three] at h2
    subst h2
    exact ⟨B, c', rfl, h1, h3⟩
theorem bal_3 (A : Option Addr) (w : World) (hl : RecIn enR w w.heap.size A [⟨0, 1, 4, ⟨#[]⟩⟩, ⟨0, 2, 3, ⟨#[]⟩⟩]) (hok : Hid (∀ e ∈ [(⟨0, 1, 4, ⟨#[]⟩⟩ : En), ⟨0, 2, 3, ⟨#[]⟩⟩], okEn (3 : Nat) e = true)) : Calls Try.prog 7 #[.int .i64 3, .slice A 2 2] w (BalPost [-7, 4, 3] w) := by
  rw [← bal_three]; exact bal_any 3 _ A 2 2 w hl (Lib.hid rfl) (by omega) (by omega) hok
set_option maxHeartbeats 2000000 in
set_option maxRecDepth 100000 in
theorem paid_any (w : World) : Calls Try.prog 5 #[] w (BoolPost true w) := by
  have I1 := Lib.hid (RecIn.lit intOk w [1, 1, 1] #[.int .i64 1, .int .i64 1, .int .i64 1] rfl)
  have K1 := Lib.hid (show Keeps w (w.alloc (.cells #[.int .i64 1, .int .i64 1, .int .i64 1] 3)) from (Keeps.refl w).alloc _)
  have L3 := Lib.hid (show 3 = [(1 : Int), 1, 1].length from rfl)
  have P1 := Lib.hid (show (0 : Int) ≤ 10 ∧ (10 : Int) ≤ 1000000000 by omega)
  have P2 := Lib.hid (show ∀ x ∈ [(1 : Int), 1, 1], 0 ≤ x ∧ x ≤ 1000000 by simp)
  have P3 := Lib.hid (show 0 < sumL [1, 1, 1] by simp [sumL])
  have P4 := Lib.hid (show ∀ e ∈ [(⟨0, 1, 4, ⟨#[]⟩⟩ : En), ⟨0, 2, 3, ⟨#[]⟩⟩], okEn (3 : Nat) e = true by
    intro e he; simp at he; rcases he with rfl | rfl <;> decide +kernel)
  have L2 := Lib.hid (show 2 = [(⟨0, 1, 4, ⟨#[]⟩⟩ : En), ⟨0, 2, 3, ⟨#[]⟩⟩].length from rfl)
  have L4 := Lib.hid (show 3 = [(-7 : Int), 4, 3].length from rfl)
  have P5 := Lib.hid (show sumL [-7, 4, 3] = 0 by simp [sumL])
  have P6 := Lib.hid (show ∀ k, k < [(-7 : Int), 4, 3].length → -(1000000000 : Int) ≤ at0 [-7, 4, 3] k ∧ at0 [-7, 4, 3] k ≤ 1000000000 by
    intro k hk; simp at hk; rcases k with _ | _ | _ | k <;> simp [at0] <;> omega)
  have he := fun W => run_eq_mv W
  go_enter Try.func5, Try.ntmps5
  go_wp2_with (first | (go_at_call 6; ((with_reducible refine (split_3 _ _ I1.out P2).mono ?_); rintro e w2 ⟨A2, c2, rfl, q2, hk2⟩; have Q2 := Lib.hid q2; clear q2; have K2 := Lib.hid (K1.out.trans hk2); have E2 := Lib.hid (RecIn.lit enOk w2 [⟨0, 1, 4, ⟨#[]⟩⟩, ⟨0, 2, 3, ⟨#[]⟩⟩] #[.int .i64 0, .int .i64 1, .int .i64 4, .string ⟨#[]⟩, .int .i64 0, .int .i64 2, .int .i64 3, .string ⟨#[]⟩] rfl))) | (go_at_call 7; ((with_reducible refine (bal_3 _ _ E2.out P4).mono ?_); rintro e w3 ⟨A3, c3, rfl, q3, hk3⟩; have Q3 := Lib.hid q3; clear q3)) | (go_at_call 8; ((with_reducible refine (net_3 _ _ _ Q3.out).mono ?_); rintro e w4 ⟨A4, c4, rfl, q4, hk4⟩; have Q4 := Lib.hid q4; have K4 := Lib.hid (hk3.trans hk4); have Q2' := Lib.hid (Q2.out.keep ((Keeps.refl _).alloc _ |>.trans K4.out)); have Q3' := Lib.hid (Q3.out.keep hk4); obtain ⟨g2, o2, rfl, x0, x1, x2⟩ := int3 Q2'.out; obtain ⟨g3, o3, rfl, y0, _, _⟩ := int3 Q3'.out; obtain ⟨g4, o4, rfl, z0, z1, z2⟩ := mv0 Q4.out)))
  go_ret
  first | exact bool_post rfl (K2.out.trans ((Keeps.refl _).alloc _ |>.trans K4.out)) | skip
end Go.Proofs.Ythkmpegpmpdhaaa
