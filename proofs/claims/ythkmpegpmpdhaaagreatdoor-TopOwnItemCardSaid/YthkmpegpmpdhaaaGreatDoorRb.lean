/- Part of the proof of TopOwnItem. Conditions: as stated in each theorem. -/
import Derived.Test.YthkmpegpmpdhaaaGreatDoorRa
import Derived.WalkMore
import Derived.Maps.OwnIn
import Derived.Deep.LoopGhost
import Derived.RangeFuncNested
import Derived.RangeFuncCalls
import Derived.RangeFuncLeaves
import Derived.RangeFuncWrites
import Derived.Shelf.Abstract
import Derived.Shelf.RegionOpen
import Derived.OwnWalkIn
import Derived.TacticsInMore
import Derived.LoopNIn
import Derived.LoopIn
import Derived.RangeFuncBound
import Derived.Test.YthkmpegpmpdhaaaGreatDoorProg
import Derived.WalkKit
import Derived.WalkSpells
import Derived.WalkLawsBesides
import Derived.Laws.EntriesVeiled
import Derived.ProofKit
import Derived.OpenShut
import Derived.Lib.Hide
import Derived.BigQuiet
import Derived.Deep.QuietTactic
import Derived.Deep.CutRange
import Derived.StillTailTactics
import Derived.Lib.SliceRun
import Derived.RangeFuncRecord
import Derived.Carry
import Derived.ChangeKeysEq
import Derived.Below
import Derived.Laws.OwnMore
import Derived.Deep.AppendLies
import Derived.Deep.Draws
import Derived.Laws.Rows
import Derived.Maps.AppendAt
import Derived.RegionTactic
import Derived.OwnWalk
import Derived.Deep.RegionHeld3
namespace Go.Proofs.YthkmpegpmpdhaaaGreatDoor
open Go.Shelf Go.ChangeShapes Go.WideShapes Go.ChangeAt Go.RowKit
set_option linter.unusedSimpArgs false
set_option linter.unusedVariables false
theorem fm_congr {α β : Type} {f g : α → List β} : ∀ (l : List α), (∀ x ∈ l, f x = g x) → l.flatMap f = l.flatMap g
  | [], _ => rfl
  | x :: l, h => by
    rw [List.flatMap_cons, List.flatMap_cons, h x (by simp), fm_congr l (fun y hy => h y (List.mem_cons_of_mem _ hy))]
section
variable (l : List Scn) (rs : List Rec) (x : Rec)
theorem labsF_more {k : ByteArray} (h : x.lab ≠ k) : labsF l (rs ++ [x]) 0 k = labsF l rs 0 k := by
  rw [labsF_append]
  simp [labsF, ba_ne h]
theorem holdsF_more (h : x.con = []) (k : ByteArray) : holdsF l (rs ++ [x]) 0 k = holdsF l rs 0 k := by
  rw [holdsF_append]
  simp [holdsF, inF, h]
theorem recOf_more {i : Nat} (h : i < rs.length) : recOf (rs ++ [x]) i = recOf rs i := by
  unfold recOf
  rw [List.getElem?_append_left h]
theorem evF_more (ch : List Int) {i : Nat} (h : i < rs.length) : evF l (rs ++ [x]) ch i = evF l rs ch i := by
  unfold evF
  rw [recOf_more rs x h]
theorem outsF_more (size : Nat) (ch zs : List Int) (hz : ∀ z ∈ zs, z.toNat < rs.length) : outsF l (rs ++ [x]) size ch zs = outsF l rs size ch zs := by
  unfold outsF
  apply List.map_congr_left
  intro z h
  exact evF_more l rs x ch (hz z ((List.mem_filter.1 h).1))
theorem hereF_more (size : Nat) {lab : ByteArray} (ch : List Int) (h : x.lab ≠ lab) : hereF l (rs ++ [x]) size lab ch = hereF l rs size lab ch := by
  unfold hereF
  rw [labsF_more l rs x h]
  split
  · refine outsF_more l rs x size ch _ (fun z hz => ?_)
    obtain ⟨j, y, rfl, hy, _⟩ := labsF_mem hz
    have := (List.getElem?_eq_some_iff.1 hy).1
    omega
  · rfl
theorem followF_more (hc : x.con = []) (hs : ∀ y ∈ rs, ¬ (y.ki = 2 ∧ y.lab = x.lab)) (size : Nat) : ∀ (f : Nat) (lab : ByteArray) (ch : List Int), x.lab ≠ lab → followF l (rs ++ [x]) size f lab ch = followF l rs size f lab ch
  | 0, lab, ch, h => by rw [followF, followF, hereF_more l rs x size ch h]
  | f + 1, lab, ch, h => by
    rw [followF, followF, hereF_more l rs x size ch h, holdsF_more l rs x hc]
    congr 1
    refine fm_congr _ (fun m hm => ?_)
    obtain ⟨j, y, rfl, hy, hv, hk⟩ := holdsF_mem hm
    have hj := (List.getElem?_eq_some_iff.1 hy).1
    have hro : recOf rs j = y := by unfold recOf; rw [hy]; rfl
    have hk2 : y.ki = 2 := by
      rcases valid_kind hv with h | h
      · rw [h] at hk; cases hk
      · exact h
    split
    · rfl
    · have e : (((0 + j : Nat)) : Int).toNat = j := by omega
      rw [e, recOf_more rs x hj, hro]
      exact followF_more hc hs size f _ _ (fun e => hs y (List.mem_of_getElem? hy) ⟨hk2, e.symm⟩)
theorem evsF_more (hc : x.con = []) (hs : ∀ y ∈ rs, ¬ (y.ki = 2 ∧ y.lab = x.lab)) (size : Nat) {lab : ByteArray} (h : x.lab ≠ lab) : evsF l (rs ++ [x]) size lab = evsF l rs size lab := by
  unfold evsF
  rw [followF_more l rs x hc hs size _ _ _ h]
theorem accF_more (hc : x.con = []) (hs : ∀ y ∈ rs, ¬ (y.ki = 2 ∧ y.lab = x.lab)) {lab : ByteArray} (h : x.lab ≠ lab) : ∀ k, accF l (rs ++ [x]) lab k = accF l rs lab k
  | 0 => rfl
  | k + 1 => by rw [accF, accF, accF_more hc hs h k, evsF_more l rs x hc hs _ h]
theorem eventsF_more (hc : x.con = []) (hs : ∀ y ∈ rs, ¬ (y.ki = 2 ∧ y.lab = x.lab)) {lab : ByteArray} (h : x.lab ≠ lab) : eventsF l (rs ++ [x]) lab = eventsF l rs lab := by
  unfold eventsF
  rw [accF_more l rs x hc hs h]
theorem EvsBd.more (h : FewP l rs) (hc : x.con = []) (hk : x.ki = 1) : EvsBd (rs ++ [x]) := by
  refine ⟨?_, fun y hy => ?_, ?_⟩
  · have := h.nr
    simp; omega
  · rcases List.mem_append.1 hy with hy | hy
    · exact h.con y hy
    · rw [List.mem_singleton] at hy
      subst hy
      rw [hc]
      simp
  · have := h.mans
    unfold mansF at *
    rw [List.filter_append, List.length_append]
    simp [hk]
    exact this
theorem EvsBd.of (h : FewP l rs) : EvsBd rs := ⟨by have := h.nr; omega, h.con, h.mans⟩
end
theorem seenF_mem {rows : List Rw} {s : Si} : ∀ {evs : List EvC} {S : List Si}, s ∈ evs.foldl (stepSee rows) S → s ∈ S ∨ ∃ v ∈ evs, sightOf v = s
  | [], S, h => .inl h
  | v :: evs, S, h => by
    rw [List.foldl_cons] at h
    rcases seenF_mem h with h | ⟨u, hu, e⟩
    · unfold stepSee at h
      split at h
      · exact .inl h
      · split at h
        · exact .inl h
        · rcases List.mem_append.1 h with h | h
          · exact .inl h
          · rw [List.mem_singleton] at h
            exact .inr ⟨v, by simp, h.symm⟩
    · exact .inr ⟨u, List.mem_cons_of_mem _ hu, e⟩
theorem seeF_mem {rows : List Rw} {evs : List EvC} {s : Si} (h : s ∈ seeF rows evs) : ∃ v ∈ evs, sightOf v = s := by
  unfold seeF sortS at h
  rw [List.mem_mergeSort] at h
  rcases seenF_mem h with h | h
  · cases h
  · exact h
theorem seeF_len (rows : List Rw) (evs : List EvC) : (seeF rows evs).length ≤ evs.length := by
  unfold seeF sortS
  rw [List.length_mergeSort]
  unfold seenF
  have := seenF_len rows evs []
  simpa using this
/-- The records of the little example. -/
def exL : List Scn := [⟨0, 3, 5⟩]
def exR (a b : ByteArray) : List Rec := [⟨0, 0, 1, 100, a, [], none, 0⟩, ⟨0, 1, 1, 200, b, [], none, 0⟩]
theorem ex_labs {a b : ByteArray} (ha : labelF a = true) (hab : b ≠ a) : labsF exL (exR a b) 0 a = [0] := by
  have h1 : validF exL ⟨0, 0, 1, 100, a, [], none, 0⟩ = true := by simp [validF, exL, scOkF, completeF, fromB, kindF, ha]
  simp [labsF, exR, h1, ba_ne hab]
theorem ex_holds (a b k : ByteArray) : holdsF exL (exR a b) 0 k = [] := by simp [holdsF, exR, inF]
theorem ex_follow (a b k : ByteArray) (size f : Nat) (ch : List Int) : followF exL (exR a b) size f k ch = hereF exL (exR a b) size k ch := by
  cases f with
  | zero => rw [followF]
  | succ f => rw [followF, ex_holds]; simp
def exE : EvC := ⟨3, 95, 105, [0]⟩
theorem ex_needs : needsF [] 0 = [0] := by
  have h : srt [((0 : Nat) : Int)] = [0] := by unfold srt; rw [List.mergeSort_singleton]; rfl
  unfold needsF
  rw [List.nil_append, h]
  rfl
theorem ex_ev (a b : ByteArray) : evF exL (exR a b) [] 0 = exE := by
  unfold evF
  rw [ex_needs]
  rfl
theorem ex_evs {a b : ByteArray} (ha : labelF a = true) (hab : b ≠ a) : evsF exL (exR a b) 1 a = [exE] := by
  unfold evsF
  rw [ex_follow]
  have h : hereF exL (exR a b) 1 a [] = [exE] := by
    unfold hereF outsF
    rw [ex_labs ha hab]
    have := ex_ev a b
    simp [hasF, this]
  rw [h]
  unfold sortE
  simp [putE, setG]
theorem ex_evs2 {a b : ByteArray} (k : Nat) : evsF exL (exR a b) (k + 2) a = [] := by
  unfold evsF
  rw [ex_follow]
  have h : hereF exL (exR a b) (k + 2) a [] = [] := by
    unfold hereF
    rw [if_neg (by simp)]
  rw [h]
  unfold sortE
  simp
theorem ex_events {a b : ByteArray} (ha : labelF a = true) (hab : b ≠ a) : eventsF exL (exR a b) a = [exE] := by
  have h1 : accF exL (exR a b) a 1 = [exE] := by
    rw [accF, ex_evs ha hab]
    simp [accF]
  have h2 : ∀ k, accF exL (exR a b) a (k + 1) = [exE] := by
    intro k
    induction k with
    | zero => exact h1
    | succ k ih =>
      rw [accF, ih, ex_evs2]
      simp
  unfold eventsF
  rw [h2 3]
  rfl
theorem ex_see (A : Option Addr) (c : Nat) : seeF [⟨[], A, c⟩] [exE] = [⟨3, 95, 105⟩] := by
  unfold seeF sortS seenF
  have h : [exE].foldl (stepSee [⟨[], A, c⟩]) [] = [⟨3, 95, 105⟩] := by
    simp [stepSee, hitF, sightOf, exE]
  rw [h, List.mergeSort_singleton]
end Go.Proofs.YthkmpegpmpdhaaaGreatDoor
