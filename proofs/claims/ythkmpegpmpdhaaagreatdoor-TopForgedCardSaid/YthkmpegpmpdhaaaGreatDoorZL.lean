/- Part of the proof of TopOwnItem. Conditions: as stated in each theorem. -/
import Derived.Test.YthkmpegpmpdhaaaGreatDoorZA
import Derived.Test.YthkmpegpmpdhaaaGreatDoorProg
import Derived.Lib.OthersKept
import Derived.Lib.TrimU
import Derived.Deep.LoopGhost
import Derived.WalkKit
import Derived.WalkSpells
import Derived.WalkLawsBesides
import Derived.Laws.EntriesVeiled
import Derived.ProofKit
import Derived.OpenShut
import Derived.Lib.Hide
import Derived.BigQuiet
import Derived.Deep.QuietTactic
import Derived.Deep.CutRange
import Derived.StillTailTactics
import Derived.Lib.SliceRun
import Derived.RangeFuncRecord
import Derived.Carry
import Derived.ChangeKeysEq
import Derived.Below
import Derived.Laws.OwnMore
import Derived.Deep.AppendLies
import Derived.Deep.Draws
import Derived.Laws.Rows
import Derived.Maps.AppendAt
import Derived.RegionTactic
import Derived.OwnWalk
import Derived.Deep.RegionHeld3
namespace Go.Proofs.YthkmpegpmpdhaaaGreatDoor
open Go.ChangeShapes Go.WideShapes Go.ChangeAt Go.RowKit
set_option linter.unusedSimpArgs false
set_option linter.unusedVariables false
/-- A rune that stands in no label. -/
def otherR (c : Nat) : Bool := decide ((c < 65 ∨ 90 < c) ∧ (c < 48 ∨ 57 < c) ∧ c ≠ 46)
/-- Whether from a place on, within so many runes, one stands in no label. -/
def anyO (s : ByteArray) : Nat → Nat → Bool
  | 0, _ => false
  | g + 1, pos => if pos < s.size then (if otherR (Utf8.decode s pos).1 then true else anyO s g (pos + (Utf8.decode s pos).2)) else false
theorem anyO_end (s : ByteArray) (g pos : Nat) (h : ¬ pos < s.size) : anyO s g pos = false := by cases g <;> simp [anyO, h]
def labelF (s : ByteArray) : Bool := decide (1 ≤ s.size) && (decide (s.size ≤ 20) && !anyO s s.size 0)
theorem labelF_short {s : ByteArray} (h : s.size < 1) : labelF s = false := by
  have : decide (1 ≤ s.size) = false := by simpa using h
  unfold labelF; rw [this]; rfl
theorem labelF_long {s : ByteArray} (h : 20 < s.size) : labelF s = false := by
  have : decide (s.size ≤ 20) = false := by simpa using h
  unfold labelF; rw [this]; simp
theorem labelF_mid {s : ByteArray} (h : ¬ s.size < 1) (h2 : ¬ 20 < s.size) : labelF s = !anyO s s.size 0 := by
  have h1 : decide (1 ≤ s.size) = true := decide_eq_true (by omega)
  have h2 : decide (s.size ≤ 20) = true := by simpa using h2
  unfold labelF; rw [h1, h2]; rfl
theorem closure175 (r : Nat) (w : World) : Calls Tryz.prog 175 #[.int .i32 (r : Int)] w fun e w' => e = .returned (.bool (otherR r)) ∧ w = w' := by
  obtain ⟨b, hb⟩ : ∃ b, otherR r = b := ⟨_, rfl⟩
  have HB := Lib.hid hb
  rw [hb]
  clear hb
  by_cases h1 : r < 65
  · have d1 : decide ((r : Int) < 65) = true := by simp; omega
    by_cases h2 : r < 48
    · have d2 : decide ((r : Int) < 48) = true := by simp; omega
      by_cases h3 : r = 46
      · have d3 : ((r : Int) != 46) = false := by simp; omega
        have d4 : ((r : Int) == 46) = true := by simp; omega
        go_enter Tryz.func175, Tryz.ntmps175
        go_wp2_with fail
        go_ret
        exact ⟨by rw [← HB.out]; simp [otherR, h3], rfl⟩
      · have d3 : ((r : Int) != 46) = true := by simp; omega
        have d4 : ((r : Int) == 46) = false := by simp; omega
        go_enter Tryz.func175, Tryz.ntmps175
        go_wp2_with fail
        go_ret
        exact ⟨by rw [← HB.out]; simp [otherR]; omega, rfl⟩
    · have d2 : decide ((r : Int) < 48) = false := by simp; omega
      by_cases h3 : 57 < r
      · have d3 : decide (57 < (r : Int)) = true := by simp; omega
        have d5 : ((r : Int) != 46) = true := by simp; omega
        have d4 : ((r : Int) == 46) = false := by simp; omega
        go_enter Tryz.func175, Tryz.ntmps175
        go_wp2_with fail
        go_ret
        exact ⟨by rw [← HB.out]; simp [otherR]; omega, rfl⟩
      · have d3 : decide (57 < (r : Int)) = false := by simp; omega
        go_enter Tryz.func175, Tryz.ntmps175
        go_wp2_with fail
        go_ret
        exact ⟨by rw [← HB.out]; simp [otherR]; omega, rfl⟩
  · have d1 : decide ((r : Int) < 65) = false := by simp; omega
    by_cases h2 : 90 < r
    · have d2 : decide (90 < (r : Int)) = true := by simp; omega
      have d6 : decide ((r : Int) < 48) = false := by simp; omega
      have d3 : decide (57 < (r : Int)) = true := by simp; omega
      have d5 : ((r : Int) != 46) = true := by simp; omega
      have d4 : ((r : Int) == 46) = false := by simp; omega
      go_enter Tryz.func175, Tryz.ntmps175
      go_wp2_with fail
      go_ret
      exact ⟨by rw [← HB.out]; simp [otherR]; omega, rfl⟩
    · have d2 : decide (90 < (r : Int)) = false := by simp; omega
      go_enter Tryz.func175, Tryz.ntmps175
      go_wp2_with fail
      go_ret
      exact ⟨by rw [← HB.out]; simp [otherR]; omega, rfl⟩
/-- A number that is not negative just where b is true. -/
def IdxPost (b : Bool) (w : World) (e : Ending) (w' : World) : Prop := ∃ I : Int, decide (0 ≤ I) = b ∧ -1 ≤ I ∧ I ≤ 9223372036854775807 ∧ e = .returned (.int .i64 I) ∧ Keeps w w'
theorem idx_post {b : Bool} {w w' : World} {I : Int} (h : decide (0 ≤ I) = b) (h1 : -1 ≤ I) (h2 : I ≤ 9223372036854775807) (hk : Keeps w w') : IdxPost b w (.returned (.int .i64 I)) w' := ⟨I, h, h1, h2, rfl, hk⟩
def IterR (s : ByteArray) (w : World) (gf : Nat) (wx : World) : Prop := ∃ pos : Nat, wx.heap[w.heap.size]? = some (.stringIter s pos) ∧ Keeps w wx ∧ anyO s gf pos = anyO s s.size 0 ∧ s.size ≤ pos + gf
set_option maxHeartbeats 2000000 in
set_option maxRecDepth 100000 in
theorem index265 (s : ByteArray) (w : World) (hs : s.size ≤ 1000) : Calls Tryz.prog 265 #[.string s, .func (.func 175) #[] #[], .bool true] w (IdxPost (anyO s s.size 0) w) := by
  obtain ⟨b, hb⟩ : ∃ b, anyO s s.size 0 = b := ⟨_, rfl⟩
  have HB := Lib.hid hb
  rw [hb]
  clear hb
  go_enter Tryz.func265, Tryz.ntmps265
  go_wp2_with fail
  go_loopg [] s.size (fun gf wx => IterR s w gf wx)
  case atStart => exact ⟨0, World.iter_heap w s 0, Below.alloc (Keeps.refl w) (Nat.le_refl _) _, rfl, by omega⟩
  case round =>
    obtain ⟨pos, hit, hbw, hleft, hfu⟩ := hrel
    have HL := Lib.hid hleft
    by_cases hps : pos < s.size
    · obtain ⟨g', rfl⟩ : ∃ g', gk = g' + 1 := ⟨gk - 1, by omega⟩
      have hnx : ∀ ty, (Instr.next (.pointer (some ⟨w.heap.size, 0, none⟩)) true ty).run Tryz.prog wr = _ := fun ty => Lib.run_next_any_at wr w.heap.size s pos ty hit hps
      have hwd := Lib.width_pos s pos
      have hst : anyO s (g' + 1) pos = if otherR (Utf8.decode s pos).1 then true else anyO s g' (pos + (Utf8.decode s pos).2) := by simp only [anyO, hps, if_true]
      rw [hleft] at hst
      have HRL := Lib.hid (Lib.rune_le s pos)
      obtain ⟨R, hR⟩ : ∃ R, (Utf8.decode s pos).1 = R := ⟨_, rfl⟩
      obtain ⟨K, hK⟩ : ∃ K, (Utf8.decode s pos).2 = K := ⟨_, rfl⟩
      rw [hR, hK] at hnx hst
      rw [hK] at hwd
      have hit2 := Lib.iterAt_heap wr w.heap.size s pos (pos + K) hit
      have hbw2 := Lib.below_iterAt hbw (k := w.heap.size) (Nat.le_refl _) s (pos + K)
      obtain ⟨W, hWd⟩ : ∃ W, wr.iterAt w.heap.size s (pos + K) = W := ⟨_, rfl⟩
      rw [hWd] at hnx hit2 hbw2
      have cS := Lib.hid (closure175 R W)
      have HB2 := Lib.hid hbw2
      have HI2 := Lib.hid hit2
      have HST := Lib.hid hst
      clear hit hbw hleft hR hK hWd hit2 hbw2 hst
      cases ho : otherR R
      · rw [ho] at cS
        have HO := Lib.hid ho
        clear ho
        go_wp2_with (go_at_call 175; (with_reducible refine cS.out.mono ?_); rintro e w' ⟨rfl, rfl⟩)
        go_roundg g'
        case measure => omega
        case rel => exact ⟨pos + K, HI2.out, HB2.out, by rw [HST.out, HO.out]; simp, by omega⟩
      · rw [ho] at cS
        have HO := Lib.hid ho
        clear ho
        go_wp2_with (go_at_call 175; (with_reducible refine cS.out.mono ?_); rintro e w' ⟨rfl, rfl⟩)
        go_ret
        exact idx_post (by rw [← HB.out, HST.out, HO.out]; simp) (by omega) (by omega) HB2.out
    · have hnx : ∀ ty, (Instr.next (.pointer (some ⟨w.heap.size, 0, none⟩)) true ty).run Tryz.prog wr = _ := fun ty => Lib.run_next_end_at wr w.heap.size s pos ty hit hps
      have hv := anyO_end s gk pos hps
      rw [hleft] at hv
      have HV := Lib.hid hv
      have HK := Lib.hid hbw
      clear hleft hv hit hbw
      go_wp2_with fail
      go_ret
      exact idx_post (by rw [← HB.out, HV.out]; decide) (by omega) (by omega) HK.out

theorem index219 (s : ByteArray) (w : World) (hs : s.size ≤ 1000) : Calls Tryz.prog 219 #[.string s, .func (.func 175) #[] #[]] w (IdxPost (anyO s s.size 0) w) := by
  have HC := Lib.hid (fun W => index265 s W hs)
  generalize anyO s s.size 0 = b at HC ⊢
  go_enter Tryz.func219, Tryz.ntmps219
  go_wp2_with (go_at_call 265; (with_reducible refine (HC.out _).mono ?_); rintro e w' ⟨I, h1, h2, h3, rfl, hk⟩; have H1 := Lib.hid h1; have HK := Lib.hid hk; clear h1 hk)
  go_ret
  exact idx_post H1.out h2 h3 HK.out
theorem contains176 (s : ByteArray) (w : World) (hs : s.size ≤ 1000) : Calls Tryz.prog 176 #[.string s, .func (.func 175) #[] #[]] w (BoolPost (anyO s s.size 0) w) := by
  have HC := Lib.hid (fun W => index219 s W hs)
  generalize anyO s s.size 0 = b at HC ⊢
  go_enter Tryz.func176, Tryz.ntmps176
  go_wp2_with (go_at_call 219; (with_reducible refine (HC.out _).mono ?_); rintro e w' ⟨I, h1, h2, h3, rfl, hk⟩; have H1 := Lib.hid h1; have HK := Lib.hid hk; clear h1 hk)
  go_ret
  exact bool_post H1.out.symm HK.out
theorem label145 (s : ByteArray) (w : World) (hs : s.size ≤ 9223372036854775807) : Calls Tryz.prog 145 #[.string s] w (BoolPost (labelF s) w) := by
  obtain ⟨b, hb⟩ : ∃ b, labelF s = b := ⟨_, rfl⟩
  have HB := Lib.hid hb
  rw [hb]
  clear hb
  by_cases h1 : s.size < 1
  · have d1 : decide ((s.size : Int) < 1) = true := decide_eq_true (by omega)
    have d1' : decide (s.size < 1) = true := decide_eq_true (by omega)
    have e0 : s.size = 0 := by omega
    have E0 := Lib.hid e0
    clear e0
    go_enter Tryz.func145, Tryz.ntmps145
    go_wp2_with fail
    go_ret
    exact bool_post (by rw [← HB.out]; exact labelF_short h1) (Keeps.refl w)
  have d1 : decide ((s.size : Int) < 1) = false := decide_eq_false (by omega)
  have d1' : decide (s.size < 1) = false := decide_eq_false (by omega)
  by_cases h2 : 20 < s.size
  · have d2 : decide (20 < (s.size : Int)) = true := decide_eq_true (by omega)
    have d2' : decide (20 < s.size) = true := decide_eq_true (by omega)
    go_enter Tryz.func145, Tryz.ntmps145
    go_wp2_with fail
    go_ret
    exact bool_post (by rw [← HB.out]; exact labelF_long h2) (Keeps.refl w)
  have d2 : decide (20 < (s.size : Int)) = false := decide_eq_false (by omega)
  have d2' : decide (20 < s.size) = false := decide_eq_false (by omega)
  have HC := Lib.hid (fun W => contains176 s W (by omega))
  obtain ⟨a, ha⟩ : ∃ a, anyO s s.size 0 = a := ⟨_, rfl⟩
  rw [ha] at HC
  have HA := Lib.hid ha
  clear ha
  go_enter Tryz.func145, Tryz.ntmps145
  go_wp2_with (go_at_call 176; (with_reducible refine (HC.out _).mono ?_); rintro e w' ⟨rfl, hk⟩; have HK := Lib.hid hk; clear hk)
  go_ret
  exact bool_post (by rw [← HB.out, labelF_mid h1 h2, HA.out]) HK.out
theorem closure144 (x m : Int) (w : World) : Calls Tryz.prog 144 #[.int .i64 x, .int .i64 m] w fun e w' => e = .returned (.bool (decide (0 ≤ x) && decide (x ≤ m))) ∧ w = w' := by
  obtain ⟨b, hb⟩ : ∃ b, (decide (0 ≤ x) && decide (x ≤ m)) = b := ⟨_, rfl⟩
  have HB := Lib.hid hb
  rw [hb]
  clear hb
  by_cases h : 0 ≤ x
  · have d : decide (0 ≤ x) = true := by simpa using h
    go_enter Tryz.func144, Tryz.ntmps144
    go_wp2_with fail
    go_ret
    exact ⟨by rw [← HB.out, d]; simp, rfl⟩
  · have d : decide (0 ≤ x) = false := by simpa using h
    go_enter Tryz.func144, Tryz.ntmps144
    go_wp2_with fail
    go_ret
    exact ⟨by rw [← HB.out, d]; simp, rfl⟩
end Go.Proofs.YthkmpegpmpdhaaaGreatDoor
