import Derived.Test.YtkfcebojfnnieaaA
import Derived.Test.YtkfcebojfnnieaaRows
import Derived.WalkKit
import Derived.WalkSpells
import Derived.WalkLawsBesides
import Derived.Laws.EntriesVeiled
import Derived.ProofKit
import Derived.OpenShut
import Derived.Lib.Hide
import Derived.BigQuiet
import Derived.Deep.QuietTactic
import Derived.Below
import Derived.Laws.OwnMore
import Derived.Deep.AppendLies
import Derived.Deep.Draws
import Derived.Laws.Rows
import Derived.Maps.AppendAt
import Derived.RegionTactic
import Derived.OwnWalk
import Derived.Deep.RegionHeld3
namespace Go.Proofs.Ytkfcebojfnnieaa
open Go.ChangeShapes Go.WideShapes Go.ChangeAt Go.RowKit
set_option linter.unusedSimpArgs false
set_option linter.unusedVariables false
def inB (n x : Int) : Bool := decide (0 ≤ x) && decide (x < n)
def rowB (l : List Int) (n : Int) : Bool := l.all (inB n)
theorem row_take {l : List Int} {n : Int} {k : Nat} {x : Int} (h : (l.take k).all (inB n) = true) (hx : l[k]? = some x) (hb : inB n x = true) : (l.take (k + 1)).all (inB n) = true := by
  rw [List.take_add_one, hx]; simp at h ⊢; exact ⟨h, hb⟩
theorem row_bad {l : List Int} {n : Int} {k : Nat} {x : Int} (hx : l[k]? = some x) (hb : inB n x = false) : rowB l n = false := by
  cases hr : rowB l n
  · rfl
  · have := List.all_eq_true.1 hr x (List.mem_of_getElem? hx)
    rw [hb] at this; cases this
theorem row_all {l : List Int} {n : Int} {k : Nat} (h : (l.take k).all (inB n) = true) (hk : l.length ≤ k) : rowB l n = true := by
  rw [List.take_of_length_le hk] at h; exact h

set_option maxHeartbeats 1000000 in
theorem below_any (l : List Int) (A : Option Addr) (n c : Nat) (m : Int) (w : World) (hl : Nums .i64 w w.heap.size A l) (hn : l.length ≤ 9223372036854775807) (hln : n = l.length) (r : Bool) (hr : rowB l m = r) :
    Calls Try.prog 35 #[.slice A n c, .int .i64 m] w (BoolPost r w) := by
  subst hr
  rw [← hln] at hn
  have HN := Lib.hid hln; clear hln
  go_enter Try.func35, Try.ntmps35
  go_wp2
  go_loopw [9] (fun i wr => ∃ k : Nat, k ≤ n ∧ i = .int .i64 k ∧ Keeps w wr ∧ (l.take k).all (inB m) = true) (fun i _ => n - (intOf i).toNat)
  case atStart => exact ⟨0, by omega, rfl, Keeps.refl _, by simp⟩
  case round =>
    obtain ⟨k, hk, rfl, hK, hf⟩ := hrel
    by_cases hkn : k < n
    · have hok : l[k]? = some (l[k]'(by rw [← HN.out]; exact hkn)) := List.getElem?_eq_getElem _
      generalize l[k]'(by rw [← HN.out]; exact hkn) = x at hok
      obtain ⟨b, off, rfl, hb, c0⟩ := (hl.keep hK) k x hok
      have hki : (k : Int) < (n : Int) := by omega
      have hk0 : (0 : Int) ≤ (k : Int) := by omega
      have hw1 : IntKind.i64.wrap ((k : Int) + 1) = (k : Int) + 1 := IntWalk.i64_in _ (by omega)
      have HF := Lib.hid hf; have HO := Lib.hid hok
      clear hf hok
      by_cases h0 : x < 0
      · have E := Lib.hid (row_bad HO.out (show inB m x = false by simp [inB]; omega))
        go_wp2
        go_ret
        exact bool_post E.out hK
      · have h0' : decide (x < 0) = false := by simpa using h0
        by_cases h1 : x < m
        · have h1' : decide (m ≤ x) = false := by simp; omega
          have HT := Lib.hid (row_take HF.out HO.out (show inB m x = true by simp [inB]; omega))
          go_wp2
          go_roundw
          case rel => exact ⟨k + 1, by omega, by go_num, hK, HT.out⟩
          case measure => simp [intOf]; omega
        · have h1' : decide (m ≤ x) = true := by simp; omega
          have E := Lib.hid (row_bad HO.out (show inB m x = false by simp [inB]; omega))
          go_wp2
          go_ret
          exact bool_post E.out hK
    · have E := Lib.hid (row_all (l := l) (n := m) (k := k) hf (by rw [← HN.out]; omega))
      go_wp2
      go_ret
      exact bool_post E.out hK

set_option maxHeartbeats 1000000 in
theorem row_any (l : List Int) (A : Option Addr) (n c : Nat) (m : Int) (w : World) (hl : Nums .i64 w w.heap.size A l) (hn : l.length ≤ 9223372036854775807) (hln : n = l.length) (r : Bool) (hr : rowB l m = r) :
    Calls Try.prog 34 #[.slice A n c, .int .i64 m] w (BoolPost r w) := by
  subst hr
  rw [← hln] at hn
  have HN := Lib.hid hln; clear hln
  go_enter Try.func34, Try.ntmps34
  go_wp2
  go_loopw [5] (fun i wr => ∃ k : Nat, k ≤ n ∧ i = .int .i64 k ∧ Keeps w wr ∧ (l.take k).all (inB m) = true) (fun i _ => n - (intOf i).toNat)
  case atStart => exact ⟨0, by omega, rfl, Keeps.refl _, by simp⟩
  case round =>
    obtain ⟨k, hk, rfl, hK, hf⟩ := hrel
    by_cases hkn : k < n
    · have hok : l[k]? = some (l[k]'(by rw [← HN.out]; exact hkn)) := List.getElem?_eq_getElem _
      generalize l[k]'(by rw [← HN.out]; exact hkn) = x at hok
      obtain ⟨b, off, rfl, hb, c0⟩ := (hl.keep hK) k x hok
      have hki : (k : Int) < (n : Int) := by omega
      have hk0 : (0 : Int) ≤ (k : Int) := by omega
      have hw1 : IntKind.i64.wrap ((k : Int) + 1) = (k : Int) + 1 := IntWalk.i64_in _ (by omega)
      have HF := Lib.hid hf; have HO := Lib.hid hok
      clear hf hok
      by_cases h0 : x < 0
      · have E := Lib.hid (row_bad HO.out (show inB m x = false by simp [inB]; omega))
        go_wp2
        go_ret
        exact bool_post E.out hK
      · have h0' : decide (x < 0) = false := by simpa using h0
        by_cases h1 : x < m
        · have h1' : decide (m ≤ x) = false := by simp; omega
          have HT := Lib.hid (row_take HF.out HO.out (show inB m x = true by simp [inB]; omega))
          go_wp2
          go_roundw
          case rel => exact ⟨k + 1, by omega, by go_num, hK, HT.out⟩
          case measure => simp [intOf]; omega
        · have h1' : decide (m ≤ x) = true := by simp; omega
          have E := Lib.hid (row_bad HO.out (show inB m x = false by simp [inB]; omega))
          go_wp2
          go_ret
          exact bool_post E.out hK
    · have E := Lib.hid (row_all (l := l) (n := m) (k := k) hf (by rw [← HN.out]; omega))
      go_wp2
      go_ret
      exact bool_post E.out hK
end Go.Proofs.Ytkfcebojfnnieaa
