import Derived.Test.YtfdegdfijjfgbaaP
import Derived.Test.YtfdegdfijjfgbaaQ
import Derived.Test.YtfdegdfijjfgbaaJ
import Derived.Test.YtfdegdfijjfgbaaK
import Derived.Test.YtfdegdfijjfgbaaF
import Derived.Deep.CutRange
import Derived.Test.YtfdegdfijjfgbaaRows
import Derived.WalkKit
import Derived.WalkSpells
import Derived.WalkLawsBesides
import Derived.Laws.EntriesVeiled
import Derived.ProofKit
import Derived.OpenShut
import Derived.Lib.Hide
import Derived.BigQuiet
import Derived.Deep.QuietTactic
import Derived.Below
import Derived.Laws.OwnMore
import Derived.Deep.AppendLies
import Derived.Deep.Draws
import Derived.Laws.Rows
import Derived.Maps.AppendAt
import Derived.RegionTactic
import Derived.OwnWalk
import Derived.Deep.RegionHeld3
namespace Go.Proofs.Ytfdegdfijjfgbaa
open Go.ChangeShapes Go.WideShapes Go.ChangeAt Go.RowKit
set_option linter.unusedSimpArgs false
set_option linter.unusedVariables false
/-- The bound 0 from a further variable to all others. -/
def starL (N k : Nat) : List Bd := (List.range k).map fun (i : Nat) => ⟨(N : Int), (i : Int), 0⟩
theorem star_next (N k : Nat) : starL N (k + 1) = starL N k ++ [⟨(N : Int), (k : Int), 0⟩] := by
  unfold starL; rw [List.range_succ, List.map_append]; rfl
theorem star_len (N k : Nat) : (starL N k).length = k := by simp [starL]
theorem star_edge {N : Nat} {l : List Bd} {i j : Nat} {c : Int} : Edge (l ++ starL N N) i j c ↔ Edge l i j c ∨ (i = N ∧ j < N ∧ c = 0) := by
  constructor
  · rintro ⟨b, hb, h1, h2, h3⟩
    rw [List.mem_append] at hb
    rcases hb with hb | hb
    · exact .inl ⟨b, hb, h1, h2, h3⟩
    · simp only [starL, List.mem_map, List.mem_range] at hb
      obtain ⟨k, hk, rfl⟩ := hb
      (try dsimp only at h1 h2 h3)
      exact .inr ⟨by omega, by omega, h3.symm⟩
  · rintro (⟨b, hb, h⟩ | ⟨rfl, hj, rfl⟩)
    · exact ⟨b, List.mem_append_left _ hb, h⟩
    · exact ⟨⟨(i : Int), (j : Int), 0⟩, List.mem_append_right _ (by simp only [starL, List.mem_map, List.mem_range]; exact ⟨j, hj, rfl⟩), rfl, rfl, rfl⟩
theorem star_valid {N : Nat} {l : List Bd} (hv : validB (N : Int) l = true) (hN : N ≤ 11) : validB ((N : Int) + 1) (l ++ starL N N) = true := by
  simp only [validB, Bool.and_eq_true, List.all_eq_true]
  refine ⟨by simp [inR]; omega, fun b hb => ?_⟩
  rw [List.mem_append] at hb
  rcases hb with hb | hb
  · have := valid_mem hv hb
    simp [okBd, inR]; omega
  · simp only [starL, List.mem_map, List.mem_range] at hb
    obtain ⟨k, hk, rfl⟩ := hb
    simp [okBd, inR]; omega
theorem edge_in {N : Nat} {l : List Bd} (hv : validB (N : Int) l = true) {i j : Nat} {c : Int} (h : Edge l i j c) : i < N ∧ j < N ∧ -10000000 ≤ c ∧ c ≤ 10000000 := by
  obtain ⟨b, hb, h1, h2, h3⟩ := h
  have := valid_mem hv hb; omega
theorem star_walk {N : Nat} {l : List Bd} (hv : validB (N : Int) l = true) {i j : Nat} {c : Int} (hw : Wk (Edge (l ++ starL N N)) i j c) : (i ≠ N → Wk (Edge l) i j c ∧ j ≠ N) ∧ (i = N → j = N → c = 0) := by
  induction hw with
  | nil => exact ⟨fun h => ⟨Wk.nil _, h⟩, fun _ _ => rfl⟩
  | snoc _ e ih =>
    have hr := star_edge.1 e
    constructor
    · intro h
      obtain ⟨h1, h2⟩ := ih.1 h
      rcases hr with hr | ⟨hr, _⟩
      · have := edge_in hv hr
        exact ⟨Wk.snoc h1 hr, by omega⟩
      · exact absurd hr h2
    · intro _ hj
      rcases hr with hr | ⟨_, hr, _⟩
      · have := edge_in hv hr; omega
      · omega
theorem star_noNeg {N : Nat} {l : List Bd} (hv : validB (N : Int) l = true) : NoNeg (Edge (l ++ starL N N)) ↔ NoNeg (Edge l) := by
  constructor
  · intro h i c hw
    exact h i c (hw.mono fun _ _ _ he => star_edge.2 (.inl he))
  · intro h i c hw
    by_cases e : i = N
    · have := (star_walk hv hw).2 e e; omega
    · exact h i c ((star_walk hv hw).1 e).1
theorem pigeon : ∀ (m : Nat) (l : List Nat), (∀ k, k < m → k ∈ l) → m ≤ l.length
  | 0, _, _ => Nat.zero_le _
  | m + 1, l, h => by
    have h1 := pigeon m (l.erase m) (fun k hk => (List.mem_erase_of_ne (by omega)).2 (h k (by omega)))
    have hm := h m (by omega)
    have h2 := List.length_erase_of_mem hm
    have h3 := List.length_pos_of_mem hm
    omega
/-- The least bounds from the further variable lie near 0. -/
theorem star_low {N : Nat} {l : List Bd} {d : Nat → Nat → Int} (hv : validB (N : Int) l = true) (hN : N ≤ 11) (hd : Least (Edge (l ++ starL N N)) (N + 1) d) {j : Nat} (hj : j < N) : -120000000 ≤ d N j ∧ d N j ≤ 0 ∧ d N j ≠ NoB := by
  have hup : ∀ i, i < N → d N i ≠ NoB ∧ d N i ≤ 0 := fun i hi => (hd.full N i 0 (by omega) (Wk.one (star_edge.2 (.inr ⟨rfl, hi, rfl⟩)))).2
  refine ⟨?_, (hup j hj).2, (hup j hj).1⟩
  by_cases hlow : -120000000 ≤ d N j
  · exact hlow
  exfalso
  obtain ⟨k, hk, hno⟩ : ∃ k, k < 12 ∧ k ∉ (List.range N).map fun i => ((-(d N i) - 1) / 10000000).toNat := by
    refine Classical.byContradiction fun hc => ?_
    have := pigeon 12 ((List.range N).map fun i => ((-(d N i) - 1) / 10000000).toNat) (fun k hk => Classical.byContradiction fun h => hc ⟨k, hk, h⟩)
    rw [List.length_map, List.length_range] at this
    omega
  have hband : ∀ i, i < N → ¬ (d N i < -((k : Int) * 10000000) ∧ -(((k : Int) + 1) * 10000000) ≤ d N i) := by
    rintro i hi ⟨h1, h2⟩
    refine hno (List.mem_map.2 ⟨i, List.mem_range.2 hi, ?_⟩)
    omega
  obtain ⟨u, hu⟩ : ∃ u : Nat → Int, ∀ m, u m = if m = N then 0 else if d N m < -(((k : Int) + 1) * 10000000) then d N m + 1 else d N m := ⟨_, fun _ => rfl⟩
  have hu0 : u N = 0 := by rw [hu, if_pos rfl]
  have hun : ∀ m, m < N → u m = if d N m < -(((k : Int) + 1) * 10000000) then d N m + 1 else d N m := fun m hm => by rw [hu, if_neg (by omega)]
  have hpot : ∀ i m c, Edge (l ++ starL N N) i m c → u m - u i ≤ c := by
    intro i m c he
    rcases star_edge.1 he with he | ⟨rfl, hm, rfl⟩
    · obtain ⟨hi, hm, hc1, hc2⟩ := edge_in hv he
      rw [hun i hi, hun m hm]
      have hw := (hd.sound N i (hup i hi).1).snoc (star_edge.2 (.inl he))
      have h1 := (hd.full N m _ (by omega) hw).2.2
      have b1 := hband i hi
      have b2 := hband m hm
      split <;> split <;> omega
    · rw [hun m hm, hu0]
      have := hup m hm
      split <;> omega
  have h := pot_walk u hpot (hd.sound N j (hup j hj).1)
  rw [hu0, hun j hj, if_pos (by omega)] at h
  omega
theorem at_map {N : Nat} (f : Nat → Int) {i : Nat} (hi : i < N) : at' ((List.range N).map f) (i : Int) = f i := at_nat (by rw [List.getElem?_map, List.getElem?_range hi]; rfl)
theorem star_holds {N : Nat} {l : List Bd} {d : Nat → Nat → Int} (hv : validB (N : Int) l = true) (hN : N ≤ 11) (hd : Least (Edge (l ++ starL N N)) (N + 1) d) : holdsB ((List.range N).map (d N)) l = true := by
  simp only [holdsB, Bool.and_eq_true, List.all_eq_true, allIn]
  constructor
  · intro x hx
    obtain ⟨i, hi, rfl⟩ := List.mem_map.1 hx
    have := star_low hv hN hd (List.mem_range.1 hi)
    simp [inR]; omega
  · intro b hb
    obtain ⟨⟨h1, h2⟩, ⟨h3, h4⟩, _⟩ := valid_mem hv hb
    obtain ⟨bf, bt, bm⟩ := b
    simp only at h1 h2 h3 h4
    obtain ⟨i, rfl⟩ : ∃ i : Nat, bf = (i : Int) := ⟨bf.toNat, by omega⟩
    obtain ⟨j, rfl⟩ : ∃ j : Nat, bt = (j : Int) := ⟨bt.toNat, by omega⟩
    simp only [okVal]
    rw [at_map _ (by omega), at_map _ (by omega), List.length_map, List.length_range]
    have he : Edge l i j bm := ⟨_, hb, rfl, rfl, rfl⟩
    have hw := (hd.sound N i (star_low hv hN hd (by omega)).2.2).snoc (star_edge.2 (.inl he))
    have := (hd.full N j _ (by omega) hw).2.2
    simp [inR]; omega
end Go.Proofs.Ytfdegdfijjfgbaa
