import Derived.Test.YtfdegdfijjfgbaaQ
import Derived.Deep.CutRange
import Derived.Test.YtfdegdfijjfgbaaRows
import Derived.WalkKit
import Derived.WalkSpells
import Derived.WalkLawsBesides
import Derived.Laws.EntriesVeiled
import Derived.ProofKit
import Derived.OpenShut
import Derived.Lib.Hide
import Derived.BigQuiet
import Derived.Deep.QuietTactic
import Derived.Below
import Derived.Laws.OwnMore
import Derived.Deep.AppendLies
import Derived.Deep.Draws
import Derived.Laws.Rows
import Derived.Maps.AppendAt
import Derived.RegionTactic
import Derived.OwnWalk
import Derived.Deep.RegionHeld3
namespace Go.Proofs.Ytfdegdfijjfgbaa
open Go.ChangeShapes Go.WideShapes Go.ChangeAt Go.RowKit
set_option linter.unusedSimpArgs false
set_option linter.unusedVariables false
theorem edge_same {l l' : List Bd} (h : ∀ x, x ∈ l ↔ x ∈ l') : Edge l = Edge l' := by
  funext i j c
  exact propext ⟨fun ⟨b, hb, hr⟩ => ⟨b, (h b).1 hb, hr⟩, fun ⟨b, hb, hr⟩ => ⟨b, (h b).2 hb, hr⟩⟩
theorem valid_same {n : Int} {l l' : List Bd} (h : ∀ x, x ∈ l ↔ x ∈ l') (hv : validB n l = true) : validB n l' = true := by
  simp only [validB, Bool.and_eq_true, List.all_eq_true] at hv ⊢
  exact ⟨hv.1, fun b hb => hv.2 b ((h b).2 hb)⟩
theorem matF_congr {n : Nat} {d d' : Nat → Nat → Int} (h : ∀ i j, i < n → j < n → d i j = d' i j) : matF n d = matF n d' := by
  unfold matF
  refine List.map_congr_left fun i hi => List.map_congr_left fun j hj => h i j (by simpa using hi) (by simpa using hj)
theorem close_both {N : Nat} {l l' : List Bd} (h : ∀ x, x ∈ l ↔ x ∈ l') (hv : validB (N : Int) l = true) (hN : N ≤ 12) : leastB N (startF l) = leastB N (startF l') ∧ (leastB N (startF l) = true → ∀ i j, i < N → j < N → closeM N l i j = closeM N l' i j) := by
  have hv' := valid_same h hv
  have e : leastB N (startF l) = leastB N (startF l') := by
    have h1 := close_iff hv hN
    have h2 := close_iff hv' hN
    rw [edge_same h, ← h2] at h1
    exact Bool.eq_iff_iff.2 h1
  refine ⟨e, fun hl => ?_⟩
  have L1 := close_least hv hN hl
  have L2 := close_least hv' hN (e ▸ hl)
  rw [edge_same h] at L1
  exact L1.eq L2 (fun _ _ c hw => ⟨c, hw, Int.le_refl _⟩) (fun _ _ c hw => ⟨c, hw, Int.le_refl _⟩)
def CloseTo (n : Int) (l : List Bd) (ls : List (List Int)) (b : Int) : Prop := ∀ (A : Option Addr) (m c : Nat) (w : World), Bnds w w.heap.size A l → Hid (m = l.length) → Calls Try.prog 12 #[.int .i64 n, .slice A m c] w (RowsPost ls b w)
def SolveTo (n most : Int) (l : List Bd) (ls : List Int) (b : Int) : Prop := ∀ (A : Option Addr) (m c : Nat) (w : World), Bnds w w.heap.size A l → Hid (m = l.length) → Calls Try.prog 17 #[.int .i64 n, .int .i64 most, .slice A m c] w (IntsPost ls b w)
theorem close_to {n : Int} {l : List Bd} {ls : List (List Int)} {b : Int} (h : Hid (CloseTo n l ls b)) (A : Option Addr) (m c : Nat) (w : World) (hl : Bnds w w.heap.size A l) (hm : Hid (m = l.length)) : Calls Try.prog 12 #[.int .i64 n, .slice A m c] w (RowsPost ls b w) := h.out A m c w hl hm
theorem solve_to {n most : Int} {l : List Bd} {ls : List Int} {b : Int} (h : Hid (SolveTo n most l ls b)) (A : Option Addr) (m c : Nat) (w : World) (hl : Bnds w w.heap.size A l) (hm : Hid (m = l.length)) : Calls Try.prog 17 #[.int .i64 n, .int .i64 most, .slice A m c] w (IntsPost ls b w) := h.out A m c w hl hm
/-- Close answers alike for lists of the same bounds. -/
theorem close_alike {n : Int} {l l' : List Bd} (h : ∀ x, x ∈ l ↔ x ∈ l') (hv : validB n l = true) (h12 : n ≤ 12) (h1 : l.length ≤ 400) (h2 : l'.length ≤ 400) :
    ∃ ls b, CloseTo n l ls b ∧ CloseTo n l' ls b ∧ ls.length ≤ 12 ∧ (∀ r ∈ ls, r.length ≤ 12) ∧ ((b = 0 ∧ NoNeg (Edge l) ∧ ls = matF n.toNat (closeM n.toNat l) ∧ Least (Edge l) n.toNat (closeM n.toNat l)) ∨ (b = 240 ∧ ¬ NoNeg (Edge l))) := by
  have h0 := valid_n hv
  obtain ⟨N, rfl⟩ : ∃ N : Nat, n = (N : Int) := ⟨n.toNat, by omega⟩
  have hN : N ≤ 12 := by omega
  have hv' := valid_same h hv
  obtain ⟨e1, e2⟩ := close_both h hv hN
  by_cases hb : leastB N (startF l) = true
  · refine ⟨matF N (closeM N l), 0, fun A m c w hl hm => ?_, fun A m c w hl hm => ?_, by rw [matF_len]; exact hN, fun r hr => by rw [matF_mem hr]; exact hN, .inl ⟨rfl, (close_iff hv hN).1 hb, by rw [Int.toNat_natCast], by rw [Int.toNat_natCast]; exact close_least hv hN hb⟩⟩
    · have := close_ok N l A m c w hl h1 hm hv hN
      rwa [if_pos hb] at this
    · have := close_ok N l' A m c w hl h2 hm hv' hN
      rw [if_pos (e1 ▸ hb)] at this
      rw [matF_congr (e2 hb)]; exact this
  · refine ⟨[], 240, fun A m c w hl hm => ?_, fun A m c w hl hm => ?_, by simp, by simp, .inr ⟨rfl, fun hn => hb ((close_iff hv hN).2 hn)⟩⟩
    · have := close_ok N l A m c w hl h1 hm hv hN
      rwa [if_neg hb] at this
    · have := close_ok N l' A m c w hl h2 hm hv' hN
      rwa [if_neg (e1 ▸ hb)] at this
theorem app_same {l l' : List Bd} (h : ∀ x, x ∈ l ↔ x ∈ l') (m : List Bd) : ∀ x, x ∈ l ++ m ↔ x ∈ l' ++ m := fun x => by simp [h x]
theorem solve_alike {n most : Int} {l l' : List Bd} (h : ∀ x, x ∈ l ↔ x ∈ l') (hv : validB n l = true) (h12 : n ≤ 12) (h1 : l.length ≤ 400) (h2 : l'.length ≤ 400) :
    ∃ ls b, SolveTo n most l ls b ∧ SolveTo n most l' ls b ∧ ls.length ≤ 12 := by
  have h0 := valid_n hv
  obtain ⟨N, rfl⟩ : ∃ N : Nat, n = (N : Int) := ⟨n.toNat, by omega⟩
  have hN : N ≤ 12 := by omega
  have hv' := valid_same h hv
  cases hi : inR (-10000000) 10000000 most
  · exact ⟨[], 1, fun A m c w hl hm => solve_bad _ _ l A m c w hl h1 hm (by rw [hi, Bool.and_false]), fun A m c w hl hm => solve_bad _ _ l' A m c w hl h2 hm (by rw [hi, Bool.and_false]), by simp⟩
  · rcases Nat.eq_zero_or_pos N with rfl | hN1
    · exact ⟨[], 0, fun A m c w hl hm => solve_zero most l A m c w hl h1 hm (Lib.hid hv) (Lib.hid hi), fun A m c w hl hm => solve_zero most l' A m c w hl h2 hm (Lib.hid hv') (Lib.hid hi), by simp⟩
    · obtain ⟨e1, e2⟩ := close_both (app_same h (extraL N most)) (extra_valid hv hN1 hi) hN
      by_cases hb : leastB N (startF (l ++ extraL N most)) = true
      · refine ⟨row0 N (solveM N most l), 0, fun A m c w hl hm => ?_, fun A m c w hl hm => ?_, by rw [row0_len]; exact hN⟩
        · have := solve_ok N most l A m c w hl h1 hm hv hi hN1 hN
          rwa [if_pos hb] at this
        · have := solve_ok N most l' A m c w hl h2 hm hv' hi hN1 hN
          rw [if_pos (e1 ▸ hb)] at this
          have e : row0 N (solveM N most l) = row0 N (solveM N most l') := by
            unfold row0 solveM
            exact List.map_congr_left fun j hj => e2 hb 0 j hN1 (by simpa using hj)
          rw [e]; exact this
      · refine ⟨[], 240, fun A m c w hl hm => ?_, fun A m c w hl hm => ?_, by simp⟩
        · have := solve_ok N most l A m c w hl h1 hm hv hi hN1 hN
          rwa [if_neg hb] at this
        · have := solve_ok N most l' A m c w hl h2 hm hv' hi hN1 hN
          rwa [if_neg (e1 ▸ hb)] at this
/-- With more bounds no least bound becomes greater. -/
theorem more_le {N : Nat} {l m : List Bd} (hv : validB (N : Int) (l ++ m) = true) (hN : N ≤ 12) (hl : leastB N (startF (l ++ m)) = true) : NoNeg (Edge l) ∧ ∀ (d : Nat → Nat → Int), Least (Edge l) N d → ∀ i j, i < N → j < N → closeM N (l ++ m) i j ≤ d i j := by
  have hno := (close_iff hv hN).1 hl
  have hL := close_least hv hN hl
  have sub : ∀ i j c, Edge l i j c → Edge (l ++ m) i j c := fun i j c ⟨b, hb, hr⟩ => ⟨b, List.mem_append.2 (.inl hb), hr⟩
  refine ⟨fun i c hw => hno i c (hw.mono sub), fun d hd i j hi hj => ?_⟩
  by_cases e : d i j = NoB
  · have hbnd : Bnd N (closeM N (l ++ m)) := (el_bnd (gof_of hv)).it N (by omega)
    have hp := two_pow_le (k := N) (by omega)
    rw [e]
    rcases hbnd i j with h | h
    · rw [h]; exact Int.le_refl _
    · generalize (2 : Int) ^ N = p at *
      unfold NoB; omega
  · exact (hL.full i j _ hi ((hd.sound i j e).mono sub)).2.2
end Go.Proofs.Ytfdegdfijjfgbaa
