import Derived.Test.YthkmpegpmpdhaaaDfC
import Derived.Test.YthkmpegpmpdhaaaRows
import Derived.WalkKit
import Derived.WalkSpells
import Derived.WalkLawsBesides
import Derived.Laws.EntriesVeiled
import Derived.ProofKit
import Derived.OpenShut
import Derived.Lib.Hide
import Derived.BigQuiet
import Derived.Deep.QuietTactic
import Derived.Below
import Derived.Laws.OwnMore
import Derived.Deep.AppendLies
import Derived.Deep.Draws
import Derived.Laws.Rows
import Derived.Maps.AppendAt
import Derived.RegionTactic
import Derived.OwnWalk
import Derived.Deep.RegionHeld3
namespace Go.Proofs.Ythkmpegpmpdhaaa.Df
open Go.ChangeShapes Go.WideShapes Go.ChangeAt Go.RowKit
set_option linter.unusedSimpArgs false
set_option linter.unusedVariables false
def fitOk (most : Int) (i : Nat) (x : Int) : Bool := if i = 0 then x == 0 else decide (x ≤ most)
def fitAll (most : Int) (v : List Int) (k : Nat) : Bool := (List.range k).all fun i => fitOk most i (at' v (i : Int))
theorem fit_succ {most : Int} {v : List Int} {k : Nat} {x : Int} (h : fitAll most v k = true) (hx : v[k]? = some x) (hb : fitOk most k x = true) : fitAll most v (k + 1) = true := by
  unfold fitAll at *
  rw [List.range_succ, List.all_append, h]; simp [at_nat hx, hb]
theorem fit_bad {most : Int} {v : List Int} {k n : Nat} {x : Int} (hk : k < n) (hx : v[k]? = some x) (hb : fitOk most k x = false) : fitAll most v n = false := by
  unfold fitAll
  rw [List.all_eq_false]; exact ⟨k, by simp [hk], by simp [at_nat hx, hb]⟩
def gN (G : Ky → Option Int) (i j : Nat) : Option Int := G ((i : Int), (j : Int))
set_option maxHeartbeats 2000000 in
theorem element_any (G : Ky → Option Int) (r b3 i j : Nat) (w : World) (hm : MapTo w r G) (hb : Blk w b3 107 #[.map (some r)]) (v : Int) (hv : elF (gN G) i j = v) :
    Calls Try.prog 61 #[.int .i64 (i : Int), .int .i64 (j : Int), .pointer (some ⟨b3, 0, none⟩)] w fun e w' => e = .returned (.int .i64 v) ∧ Keeps w w' := by
  have HV := Lib.hid hv; clear hv
  have c0 : w.cell? ⟨b3, 0, none⟩ = some (.map (some r)) := hb.cell 0
  have k1 : Keeps w (w.alloc (.cells #[.int .i64 (i : Int), .int .i64 (j : Int)] 129)) := (Keeps.refl w).alloc _
  have hl := (hm.keep k1).look (i : Int) (j : Int)
  have K1 := Lib.hid k1; clear k1
  have hlt := hb.lt
  have eqK := run_eq_ky
  by_cases e : i = j
  · subst e
    have e1 : ((i : Int) == (i : Int)) = true := by simp
    cases hg : G ((i : Int), (i : Int)) with
    | none =>
      rw [hg] at hl
      have E := Lib.hid (show elF (gN G) i i = 0 by unfold elF gN; rw [if_pos rfl, hg]; unfold NoB; decide)
      go_enter Try.func61, Try.ntmps61
      go_wp2_with fail
      go_ret
      exact ⟨ret_int (by rw [← HV.out, E.out]), K1.out⟩
    | some x =>
      rw [hg] at hl
      by_cases hx : x ≤ 0
      · have E := Lib.hid (show elF (gN G) i i = x by unfold elF gN; rw [if_pos rfl, hg, Option.getD_some]; omega)
        go_enter Try.func61, Try.ntmps61
        go_wp2_with fail
        go_ret
        exact ⟨ret_int (by rw [← HV.out, E.out]), K1.out⟩
      · have E := Lib.hid (show elF (gN G) i i = 0 by unfold elF gN; rw [if_pos rfl, hg, Option.getD_some]; omega)
        go_enter Try.func61, Try.ntmps61
        go_wp2_with fail
        go_ret
        exact ⟨ret_int (by rw [← HV.out, E.out]), K1.out⟩
  · have e1 : ((i : Int) == (j : Int)) = false := by simp; omega
    cases hg : G ((i : Int), (j : Int)) with
    | none =>
      rw [hg] at hl
      have E := Lib.hid (show elF (gN G) i j = 1099511627776 by unfold elF gN; rw [if_neg e, hg]; rfl)
      clear e
      go_enter Try.func61, Try.ntmps61
      go_wp2_with fail
      go_ret
      exact ⟨ret_int (by rw [← HV.out, E.out]), K1.out⟩
    | some x =>
      rw [hg] at hl
      have E := Lib.hid (show elF (gN G) i j = x by unfold elF gN; rw [if_neg e, hg]; rfl)
      clear e
      go_enter Try.func61, Try.ntmps61
      go_wp2_with fail
      go_ret
      exact ⟨ret_int (by rw [← HV.out, E.out]), K1.out⟩
/-- The rows of a matrix. -/
def matF (n : Nat) (d : Nat → Nat → Int) : List (List Int) := (List.range n).map fun i => (List.range n).map fun j => d i j
theorem matF_len (n : Nat) (d : Nat → Nat → Int) : (matF n d).length = n := by simp [matF]
theorem matF_row {n : Nat} {d : Nat → Nat → Int} {i : Nat} (h : i < n) : (matF n d)[i]? = some ((List.range n).map fun j => d i j) := by simp [matF, h]
theorem matF_mem {n : Nat} {d : Nat → Nat → Int} {l : List Int} (h : l ∈ matF n d) : l.length = n := by
  simp only [matF, List.mem_map] at h
  obtain ⟨i, _, rfl⟩ := h
  simp
theorem row_at {n : Nat} {d : Nat → Nat → Int} {i j : Nat} (h : j < n) : ((List.range n).map fun j => d i j)[j]? = some (d i j) := by simp [h]
theorem contr_bad {n i : Nat} {d : Nat → Nat → Int} (hi : i < n) (h : d i i < 0) : contrB n d = true := by
  simp only [contrB, List.any_eq_true, List.mem_range, decide_eq_true_eq]; exact ⟨i, hi, h⟩
theorem contr_none {n : Nat} {d : Nat → Nat → Int} (h : ∀ i, i < n → 0 ≤ d i i) : contrB n d = false := by
  simp only [contrB, List.any_eq_false, List.mem_range, decide_eq_true_eq]
  intro i hi; have := h i hi; omega
set_option maxHeartbeats 1000000 in
theorem contr_any (n : Nat) (d : Nat → Nat → Int) (A : Option Addr) (c : Nat) (w : World) (hl : NumRows w w.heap.size A (matF n d)) (hn : n ≤ 1000) (r : Bool) (hr : Hid (contrB n d = r)) : Calls Try.prog 62 #[.slice A n c] w (BoolPost r w) := by
  go_enter Try.func62, Try.ntmps62
  go_wp2
  go_loopw [3, 6] (fun _ i wr => ∃ k : Nat, k ≤ n ∧ i = .int .i64 (k : Int) ∧ Keeps w wr ∧ ∀ i, i < k → 0 ≤ d i i) (fun _ i _ => n - (intOf i).toNat)
  case atStart => exact ⟨0, by omega, rfl, Keeps.refl _, fun i h => by omega⟩
  case round =>
    obtain ⟨k, hk, rfl, hK, hf⟩ := hrel
    have HF := Lib.hid hf; clear hf
    by_cases hkn : k < n
    · obtain ⟨b, off, A', c', rfl, hb, c0, hN⟩ := (hl.keep hK) k _ (matF_row hkn)
      simp only [List.length_map, List.length_range] at c0
      obtain ⟨b2, off2, rfl, hb2, c1⟩ := hN k _ (row_at hkn)
      obtain ⟨x, hx⟩ : ∃ x, d k k = x := ⟨_, rfl⟩
      rw [hx] at c1
      have HX := Lib.hid hx
      have hki : (k : Int) < (n : Int) := by omega
      have hk0 : (0 : Int) ≤ (k : Int) := by omega
      have hkw : IntKind.i64.wrap ((k : Int) + 1) = (k : Int) + 1 := IntWalk.i64_in _ (by omega)
      clear hN hx
      by_cases h0 : x < 0
      · have E := Lib.hid (contr_bad (d := d) hkn (by rw [HX.out]; exact h0))
        have h0' : decide (x < 0) = true := by simpa using h0
        go_wp2
        go_ret
        exact bool_post (hr.out.symm.trans E.out) hK
      · have h0' : decide (x < 0) = false := by simpa using h0
        have HT := Lib.hid (show ∀ i, i < k + 1 → 0 ≤ d i i from fun i hi => by
          by_cases e : i = k
          · subst e; rw [HX.out]; omega
          · exact HF.out i (by omega))
        go_wp2
        go_roundw
        case rel => exact ⟨k + 1, by omega, by go_num, hK, HT.out⟩
        case measure => simp [intOf]; omega
    · have E := Lib.hid (contr_none (n := n) (d := d) (fun i hi => HF.out i (by omega)))
      go_wp2
      go_ret
      exact bool_post (hr.out.symm.trans E.out) hK
end Go.Proofs.Ythkmpegpmpdhaaa.Df
