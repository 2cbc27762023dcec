/- Part of the proof of x. Conditions: as stated in each theorem. -/
import Derived.Test.YthkmpegpmpdhaaaGreatDoorD
import Derived.Test.YthkmpegpmpdhaaaGreatDoorProg
import Derived.WalkKit
import Derived.WalkSpells
import Derived.WalkLawsBesides
import Derived.Laws.EntriesVeiled
import Derived.ProofKit
import Derived.OpenShut
import Derived.Lib.Hide
import Derived.BigQuiet
import Derived.Deep.QuietTactic
import Derived.Deep.CutRange
import Derived.StillTailTactics
import Derived.Lib.SliceRun
import Derived.RangeFuncRecord
import Derived.Carry
import Derived.ChangeKeysEq
import Derived.Below
import Derived.Laws.OwnMore
import Derived.Deep.AppendLies
import Derived.Deep.Draws
import Derived.Laws.Rows
import Derived.Maps.AppendAt
import Derived.RegionTactic
import Derived.OwnWalk
import Derived.Deep.RegionHeld3
namespace Go.Proofs.YthkmpegpmpdhaaaGreatDoor
open Go.ChangeShapes Go.WideShapes Go.ChangeAt Go.RowKit
set_option linter.unusedSimpArgs false
set_option linter.unusedVariables false
def IxPost (b : Bool) (w : World) (e : Ending) (w' : World) : Prop := ∃ I : Int, decide (0 ≤ I) = b ∧ e = .returned (.int .i64 I) ∧ w = w'
theorem ix_post {b : Bool} {w : World} {I : Int} (h : decide (0 ≤ I) = b) : IxPost b w (.returned (.int .i64 I)) w := ⟨I, h, rfl, rfl⟩
def hasF (l : List Int) (x : Int) : Bool := l.any (fun y => y == x)
theorem hasF_iff {l : List Int} {x : Int} : hasF l x = true ↔ x ∈ l := by simp [hasF]
def IxR (l : List Int) (x : Int) (w : World) (v : Value) (wr : World) : Prop := ∃ i : Nat, i ≤ l.length ∧ v = .int .i64 (i : Int) ∧ wr = w ∧ hasF (l.take i) x = false
set_option maxRecDepth 100000 in
theorem index106 (l : List Int) (x : Int) (A : Option Addr) (n c : Nat) (w : World) (h : RecIn intR w w.heap.size A l) (hn : Hid (n = l.length)) (hnm : n ≤ 1000000) :
    Calls Tryz.prog 106 #[.slice A n c, .int .i64 x] w (IxPost (hasF l x) w) := by
  have HD := Lib.hid h
  obtain ⟨bb, hbb⟩ : ∃ b, hasF l x = b := ⟨_, rfl⟩
  have HBB := Lib.hid hbb
  rw [hbb]
  clear h hbb
  go_enter Tryz.func106, Tryz.ntmps106
  go_wp2_with fail
  go_loopw [8] (fun v wr => IxR l x w v wr) (fun v _ => n - (intOf v).toNat)
  case atStart => exact ⟨0, by omega, rfl, rfl, rfl⟩
  case round =>
    obtain ⟨i, hi, rfl, rfl, hno⟩ := hrel
    have hnl := hn.out
    have HNO := Lib.hid hno
    by_cases hin : i < n
    · obtain ⟨y, hy⟩ : ∃ y, l[i]? = some y := ⟨_, List.getElem?_eq_getElem (by omega)⟩
      have HY := Lib.hid hy
      obtain ⟨b, o, rfl, hbl, c0⟩ := HD.out.int hy
      have hil : i < l.length := by omega
      have ii : (i : Int) < (n : Int) := by omega
      have i0 : (0 : Int) ≤ (i : Int) := by omega
      have iw : IntKind.i64.wrap ((i : Int) + 1) = (i : Int) + 1 := wrap_in (by omega) (by omega)
      clear hy hno hnl
      by_cases hxy : y = x
      · subst hxy
        go_wp2_with fail
        go_ret
        exact ix_post (by rw [← HBB.out]; have : hasF l y = true := hasF_iff.2 (List.mem_of_getElem? HY.out); rw [this]; simp)
      · have d1 : (x == y) = false := by simpa using fun e => hxy e.symm
        have hd := Lib.hid (show hasF (l.take (i + 1)) x = false by
          rw [take_snoc' HY.out]
          have := HNO.out
          unfold hasF at *
          rw [List.any_append, this]
          simpa using hxy)
        go_wp2_with fail
        go_roundw
        case rel => exact ⟨i + 1, by omega, by go_num, rfl, hd.out⟩
        case measure => simp [intOf]; omega
    · have e : l.take i = l := List.take_of_length_le (by omega)
      rw [e] at HNO
      clear hno hnl e
      go_wp2_with fail
      go_ret
      exact ix_post (by rw [← HBB.out, HNO.out]; decide)
theorem has61 (l : List Int) (x : Int) (A : Option Addr) (n c : Nat) (w : World) (h : RecIn intR w w.heap.size A l) (hn : Hid (n = l.length)) (hnm : n ≤ 1000000) :
    Calls Tryz.prog 61 #[.slice A n c, .int .i64 x] w fun e w' => e = .returned (.bool (hasF l x)) ∧ w = w' := by
  have HC := Lib.hid (index106 l x A n c w h hn hnm)
  generalize hasF l x = b at HC ⊢
  clear h
  go_enter Tryz.func61, Tryz.ntmps61
  go_wp2_with (go_at_call 106; (with_reducible refine HC.out.mono ?_); rintro e w' ⟨I, h1, rfl, rfl⟩; have H1 := Lib.hid h1; clear h1)
  go_ret
  exact ⟨by show Ending.returned (.bool (decide (0 ≤ I))) = _; rw [H1.out], rfl⟩
def CloneP (l : List Int) (n : Nat) (w : World) (e : Ending) (w' : World) : Prop := ∃ A' c', e = .returned (.slice A' n c') ∧ OwnR intR w w' (.slice A' n c') l
set_option maxRecDepth 100000 in
theorem clone64 (l : List Int) (A : Option Addr) (n c : Nat) (w : World) (hl : RecIn intR w w.heap.size A l) (hln : Hid (n = l.length)) (hn : n ≤ 100000) :
    Calls Tryz.prog 64 #[.slice A n c] w (CloneP l n w) := by
  have q28 : ∀ (w : World) (a : Option Addr) (n c n' c' : Nat), (binOp .eql 41 (.slice a n c) (.slice none n' c')).run Tryz.prog w = .ok (.bool a.isNone) w := fun w a n c n' c' => Lib.run_eql_slice_nil w _ _ a n c n' c' Tryz.underlying41
  rcases A with _ | ad
  · have hl0 : l = [] := by
      cases l with
      | nil => rfl
      | cons x t => obtain ⟨b, o, e, _⟩ := hl.int (j := 0) rfl; cases e
    have hn0 : n = 0 := by rw [hln.out, hl0]; rfl
    subst hl0
    subst hn0
    clear hl
    go_enter Tryz.func64, Tryz.ntmps64
    go_wp2_with fail
    go_ret
    exact ⟨none, 0, rfl, OwnR.nil w⟩
  · have O0 := Lib.hid (OwnR.lit (R := intR) (Keeps.refl w))
    have OL := Lib.hid (hl.keep O0.out.2)
    have L0 := Lib.hid (show ([] : List Int).length + l.length ≤ 1000000 by have := hln.out; simp; omega)
    clear hl
    go_enter Tryz.func64, Tryz.ntmps64
    go_wp2_with (at_builtin; refine wpList_appR intOk rfl (.tmp 5) (.tmp 6) rfl _ [] rfl O0.out _ n c l rfl OL.out hln L0 ?_; intro A' n' c' w6 ho6 hg6; clear hg6; replace ho6 : OwnR intR w w6 (.slice A' n' c') l := ho6; have H6 := Lib.hid ho6; clear ho6)
    go_ret
    have hn := (H6.out.recs intOk).2
    have e : n' = n := by have := hln.out; omega
    subst e
    exact ⟨_, _, rfl, H6.out⟩
end Go.Proofs.YthkmpegpmpdhaaaGreatDoor
