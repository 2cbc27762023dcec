/- Part of the proofs of TopMoney and TopOrders. Conditions: as stated in each theorem. -/
import Derived.Test.YthkmpegpmpdhaaaA
import Derived.Deep.CutRange
import Derived.StillTailTactics
import Derived.Test.YthkmpegpmpdhaaaRows
import Derived.WalkKit
import Derived.WalkSpells
import Derived.WalkLawsBesides
import Derived.Laws.EntriesVeiled
import Derived.ProofKit
import Derived.OpenShut
import Derived.Lib.Hide
import Derived.BigQuiet
import Derived.Deep.QuietTactic
import Derived.Below
import Derived.Laws.OwnMore
import Derived.Deep.AppendLies
import Derived.Deep.Draws
import Derived.Laws.Rows
import Derived.Maps.AppendAt
import Derived.RegionTactic
import Derived.OwnWalk
import Derived.Deep.RegionHeld3
namespace Go.Proofs.Ythkmpegpmpdhaaa
open Go.ChangeShapes Go.WideShapes Go.ChangeAt Go.RowKit
set_option linter.unusedSimpArgs false
set_option linter.unusedVariables false
/-- Whole numbers. -/
abbrev intR : RowTy Int := { T := 3, S := 28, k := 1, by' := 8, enc := fun x => [.int .i64 x] }
theorem intOk : RowOk Try.prog intR := ⟨fun _ => rfl, fun x u hu => by simp at hu; subst hu; rfl, Try.underlying28, info_of (z := .int .i64 0) (by kernel_rfl) rfl, by decide, by decide⟩
/-- Entries of a ledger. -/
abbrev enR : RowTy En := { T := 34, S := 26, k := 4, by' := 40, enc := fun e => [.int .i64 e.f, .int .i64 e.t, .int .i64 e.a, .string e.r] }
theorem enOk : RowOk Try.prog enR := ⟨fun _ => rfl, fun x u hu => by simp at hu; rcases hu with rfl | rfl | rfl | rfl <;> rfl, Try.underlying26, info_of (z := .agg #[.int .i64 0, .int .i64 0, .int .i64 0, .string ByteArray.empty]) (by kernel_rfl) rfl, by decide, by decide⟩
/-- Payments. -/
abbrev mvR : RowTy Mv := { T := 44, S := 36, k := 3, by' := 24, enc := fun e => [.int .i64 (e.f : Int), .int .i64 (e.t : Int), .int .i64 e.a] }
theorem mvOk : RowOk Try.prog mvR := ⟨fun _ => rfl, fun x u hu => by simp at hu; rcases hu with rfl | rfl | rfl <;> rfl, Try.underlying36, info_of (z := .agg #[.int .i64 0, .int .i64 0, .int .i64 0]) (by kernel_rfl) rfl, by decide, by decide⟩
/-- Places with remainders. -/
abbrev rmR : RowTy (Nat × Int) := { T := 64, S := 62, k := 2, by' := 16, enc := fun e => [.int .i64 (e.1 : Int), .int .i64 e.2] }
theorem rmOk : RowOk Try.prog rmR := ⟨fun _ => rfl, fun x u hu => by simp at hu; rcases hu with rfl | rfl <;> rfl, Try.underlying62, info_of (z := .agg #[.int .i64 0, .int .i64 0]) (by kernel_rfl) rfl, by decide, by decide⟩
section
variable {w : World} {B : Nat} {A : Option Addr}
theorem RecIn.int {l : List Int} (h : RecIn intR w B A l) {j : Nat} {x : Int} (hj : l[j]? = some x) : ∃ b off, A = some ⟨b, off, none⟩ ∧ b < B ∧ w.cell? ⟨b, off + j, none⟩ = some (.int .i64 x) := by
  obtain ⟨b, off, e, hb, hc⟩ := h j x hj
  refine ⟨b, off, e, hb, ?_⟩
  have := hc 0 _ rfl
  simpa using this
theorem RecIn.en {l : List En} (h : RecIn enR w B A l) {j : Nat} {x : En} (hj : l[j]? = some x) : ∃ b off, A = some ⟨b, off, none⟩ ∧ b < B ∧ w.cell? ⟨b, off + j * 4, none⟩ = some (.int .i64 x.f) ∧ w.cell? ⟨b, off + j * 4 + 1, none⟩ = some (.int .i64 x.t) ∧ w.cell? ⟨b, off + j * 4 + 2, none⟩ = some (.int .i64 x.a) ∧ w.cell? ⟨b, off + j * 4 + 3, none⟩ = some (.string x.r) := by
  obtain ⟨b, off, e, hb, hc⟩ := h j x hj
  exact ⟨b, off, e, hb, hc 0 _ rfl, hc 1 _ rfl, hc 2 _ rfl, hc 3 _ rfl⟩
theorem RecIn.mv {l : List Mv} (h : RecIn mvR w B A l) {j : Nat} {x : Mv} (hj : l[j]? = some x) : ∃ b off, A = some ⟨b, off, none⟩ ∧ b < B ∧ w.cell? ⟨b, off + j * 3, none⟩ = some (.int .i64 (x.f : Int)) ∧ w.cell? ⟨b, off + j * 3 + 1, none⟩ = some (.int .i64 (x.t : Int)) ∧ w.cell? ⟨b, off + j * 3 + 2, none⟩ = some (.int .i64 x.a) := by
  obtain ⟨b, off, e, hb, hc⟩ := h j x hj
  exact ⟨b, off, e, hb, hc 0 _ rfl, hc 1 _ rfl, hc 2 _ rfl⟩
theorem RecIn.rm {l : List (Nat × Int)} (h : RecIn rmR w B A l) {j : Nat} {x : Nat × Int} (hj : l[j]? = some x) : ∃ b off, A = some ⟨b, off, none⟩ ∧ b < B ∧ w.cell? ⟨b, off + j * 2, none⟩ = some (.int .i64 (x.1 : Int)) ∧ w.cell? ⟨b, off + j * 2 + 1, none⟩ = some (.int .i64 x.2) := by
  obtain ⟨b, off, e, hb, hc⟩ := h j x hj
  exact ⟨b, off, e, hb, hc 0 _ rfl, hc 1 _ rfl⟩
end
theorem within_any (x lo hi : Int) (r : Bool) (hr : Hid ((decide (lo ≤ x) && decide (x ≤ hi)) = r)) (w : World) : Calls Try.prog 22 #[.int .i64 x, .int .i64 lo, .int .i64 hi] w fun e w' => e = .returned (.bool r) ∧ w = w' := by
  by_cases h : lo ≤ x
  · have h' : decide (lo ≤ x) = true := by simpa using h
    rw [show r = decide (x ≤ hi) by have := hr.out; rw [h'] at this; simpa using this.symm]
    clear hr
    go_enter Try.func22, Try.ntmps22
    go_wp2
    go_ret
    exact ⟨rfl, rfl⟩
  · have h' : decide (lo ≤ x) = false := by simpa using h
    rw [show r = false by have := hr.out; rw [h'] at this; simpa using this.symm]
    clear hr
    go_enter Try.func22, Try.ntmps22
    go_wp2
    go_ret
    exact ⟨rfl, rfl⟩
theorem within_yes {x lo hi : Int} (h : Hid (lo ≤ x ∧ x ≤ hi)) (w : World) : Calls Try.prog 22 #[.int .i64 x, .int .i64 lo, .int .i64 hi] w fun e w' => e = .returned (.bool true) ∧ w = w' := within_any x lo hi true (by unfold Hid; have := h.out; simp; omega) w
def enV (e : En) : Value := .agg #[.int .i64 e.f, .int .i64 e.t, .int .i64 e.a, .string e.r]
set_option maxHeartbeats 1000000 in
theorem valid_yes (n f t a : Int) (r : ByteArray) (h : Hid (okEn n ⟨f, t, a, r⟩ = true)) (w : World) : Calls Try.prog 26 #[.int .i64 n, .agg #[.int .i64 f, .int .i64 t, .int .i64 a, .string r]] w (BoolPost true w) := by
  have hh := okEn_iff.1 h.out
  (try dsimp only at hh)
  obtain ⟨a1, a2, a3, a4, a5, a6⟩ := hh
  have A1 := Lib.hid a1; have A2 := Lib.hid a2; have A3 := Lib.hid a3; have A5 := Lib.hid a5
  have hnw : IntKind.i64.wrap (n - 1) = n - 1 := IntWalk.i64_in _ (by omega)
  have h4 : (f != t) = true := by simpa using a4
  have h6 : decide ((r.size : Int) ≤ 60) = true := by simp; omega
  clear a1 a2 a3 a5 h
  have K := Lib.hid (show Keeps w (w.alloc (.cells #[.int .i64 f, .int .i64 t, .int .i64 a, .string r] 34)) from (Keeps.refl w).alloc _)
  go_enter Try.func26, Try.ntmps26
  go_wp2_with (first | (go_at_call 22; (with_reducible refine (within_yes A1 _).mono ?_); rintro e w1 ⟨rfl, rfl⟩) | (go_at_call 22; (with_reducible refine (within_yes A2 _).mono ?_); rintro e w1 ⟨rfl, rfl⟩) | (go_at_call 22; (with_reducible refine (within_yes A3 _).mono ?_); rintro e w1 ⟨rfl, rfl⟩) | (go_at_call 22; (with_reducible refine (within_yes A5 _).mono ?_); rintro e w1 ⟨rfl, rfl⟩))
  go_ret
  exact bool_post rfl K.out
set_option maxHeartbeats 1000000 in
theorem zero_yes (l : List Int) (A : Option Addr) (m c : Nat) (w : World) (hl : RecIn intR w w.heap.size A l) (hm : Hid (m = l.length)) (hz : Hid (∀ x ∈ l, x = 0)) (hb : m ≤ 1000000) : Calls Try.prog 10 #[.slice A m c, .int .i64 (m : Int)] w (BoolPost true w) := by
  have HL := Lib.hid hl; clear hl
  go_enter Try.func10, Try.ntmps10
  go_wp2
  go_loopw [5] (fun i wr => ∃ k : Nat, k ≤ m ∧ i = .int .i64 (k : Int) ∧ Keeps w wr) (fun i _ => m - (intOf i).toNat)
  case atStart => exact ⟨0, by omega, rfl, Keeps.refl _⟩
  case round =>
    obtain ⟨k, hk, rfl, hK⟩ := hrel
    by_cases hkm : k < m
    · have hok : l[k]? = some (l[k]'(by rw [← hm.out]; exact hkm)) := List.getElem?_eq_getElem _
      generalize l[k]'(by rw [← hm.out]; exact hkm) = x at hok
      obtain rfl := hz.out x (List.mem_of_getElem? hok)
      obtain ⟨b, off, rfl, hb1, c0⟩ := (HL.out.keep hK).int hok
      have hki : (k : Int) < (m : Int) := by omega
      have hk0 : (0 : Int) ≤ (k : Int) := by omega
      have hkw : IntKind.i64.wrap ((k : Int) + 1) = (k : Int) + 1 := IntWalk.i64_in _ (by omega)
      clear hok
      go_wp2
      go_roundw
      case rel => first | exact ⟨k + 1, by omega, by go_num, hK⟩ | ((repeat apply Exists.intro); exact ⟨⟨k + 1, by omega, by go_num, hK⟩, rfl⟩)
      case measure => simp [intOf]; omega
    · go_wp2
      go_ret
      exact bool_post rfl hK
end Go.Proofs.Ythkmpegpmpdhaaa
