/- Part of the proof of x. Conditions: as stated in each theorem. -/
import Derived.Test.YthkmpegpmpdhaaaGreatDoorZJ
import Derived.Test.YthkmpegpmpdhaaaGreatDoorZN
import Derived.Test.YthkmpegpmpdhaaaGreatDoorProg
import Derived.Lib.SlicesCompact
import Derived.WalkKit
import Derived.WalkSpells
import Derived.WalkLawsBesides
import Derived.Laws.EntriesVeiled
import Derived.ProofKit
import Derived.OpenShut
import Derived.Lib.Hide
import Derived.BigQuiet
import Derived.Deep.QuietTactic
import Derived.Deep.CutRange
import Derived.StillTailTactics
import Derived.Lib.SliceRun
import Derived.RangeFuncRecord
import Derived.Carry
import Derived.ChangeKeysEq
import Derived.Below
import Derived.Laws.OwnMore
import Derived.Deep.AppendLies
import Derived.Deep.Draws
import Derived.Laws.Rows
import Derived.Maps.AppendAt
import Derived.RegionTactic
import Derived.OwnWalk
import Derived.Deep.RegionHeld3
namespace Go.Proofs.YthkmpegpmpdhaaaGreatDoor
open Go.ChangeShapes Go.WideShapes Go.ChangeAt Go.RowKit
set_option linter.unusedSimpArgs false
set_option linter.unusedVariables false
/-- One entry set: at the first key that is equal, or at the end. -/
def setG {κ β : Type} (eq : κ → κ → Bool) (x : κ) (b : β) : List (κ × β) → List (κ × β)
  | [] => [(x, b)]
  | e :: es => if eq x e.1 then (x, b) :: es else e :: setG eq x b es
theorem setG_map {κ β γ : Type} (eq : κ → κ → Bool) (x : κ) (b : β) (f : β → γ) : ∀ (l : List (κ × β)), (setG eq x b l).map (fun p => (p.1, f p.2)) = setG eq x (f b) (l.map fun p => (p.1, f p.2))
  | [] => rfl
  | e :: es => by
    simp only [setG, List.map_cons]
    split
    · rfl
    · rw [List.map_cons, setG_map eq x b f es]
theorem setG_F {κ : Type} (eq : κ → κ → Bool) (x : κ) (b : Value) : ∀ (l : List (κ × Value)), setG eq x b l = setF eq x b l
  | [] => rfl
  | e :: es => by simp only [setG, setF, setG_F eq x b es]
theorem setG_mem {κ β : Type} {eq : κ → κ → Bool} {x : κ} {b : β} {p : κ × β} : ∀ {l : List (κ × β)}, p ∈ setG eq x b l → p = (x, b) ∨ p ∈ l
  | [], h => by simp [setG] at h; exact .inl h
  | e :: es, h => by
    simp only [setG] at h
    split at h
    · rcases List.mem_cons.1 h with h | h
      · exact .inl h
      · exact .inr (List.mem_cons_of_mem _ h)
    · rcases List.mem_cons.1 h with h | h
      · exact .inr (h ▸ List.mem_cons_self)
      · exact (setG_mem h).imp id (List.mem_cons_of_mem _)
theorem setG_len {κ β : Type} (eq : κ → κ → Bool) (x : κ) (b : β) : ∀ (l : List (κ × β)), (setG eq x b l).length ≤ l.length + 1
  | [] => by simp [setG]
  | e :: es => by
    simp only [setG]
    split
    · simp
    · have := setG_len eq x b es
      simp only [List.length_cons]; omega
def putE (L : List (ByteArray × EvC)) (e : EvC) : List (ByteArray × EvC) := setG sEq (textF e) e L
def outsF (l : List Scn) (rs : List Rec) (size : Nat) (ch zs : List Int) : List EvC := (zs.filter fun i => hasF ch i == decide (ch.length = size)).map fun i => evF l rs ch i.toNat
def hereF (l : List Scn) (rs : List Rec) (size : Nat) (lab : ByteArray) (ch : List Int) : List EvC := if size ≤ ch.length + 1 then outsF l rs size ch (labsF l rs 0 lab) else []
def followF (l : List Scn) (rs : List Rec) (size : Nat) : Nat → ByteArray → List Int → List EvC
  | 0, lab, ch => hereF l rs size lab ch
  | f + 1, lab, ch => hereF l rs size lab ch ++ (holdsF l rs 0 lab).flatMap fun m => if hasF ch m then [] else followF l rs size f (recOf rs m.toNat).lab (ch ++ [m])
theorem outsF_snoc {l : List Scn} {rs : List Rec} {size : Nat} {ch zs : List Int} {j : Nat} {z : Int} (h : zs[j]? = some z) :
    outsF l rs size ch (zs.take (j + 1)) = outsF l rs size ch (zs.take j) ++ (if hasF ch z == decide (ch.length = size) then [evF l rs ch z.toNat] else []) := by
  unfold outsF
  rw [take_snoc' h, List.filter_append, List.map_append]
  congr 1
  by_cases hb : (hasF ch z == decide (ch.length = size)) = true
  · simp [hb]
  · simp [hb]
theorem labsF_mem {l : List Scn} {k : ByteArray} {z : Int} : ∀ {a : List Rec} {i : Nat}, z ∈ labsF l a i k → ∃ j x, z = ((i + j : Nat) : Int) ∧ a[j]? = some x ∧ validF l x = true ∧ x.lab = k
  | [], i, h => by simp [labsF] at h
  | x :: a, i, h => by
    simp only [labsF, List.mem_append] at h
    rcases h with h | h
    · by_cases hc : (validF l x && x.lab == k) = true
      · rw [if_pos hc] at h
        simp only [Bool.and_eq_true] at hc
        exact ⟨0, x, by simpa using h, rfl, hc.1, (ba_beq _ _).1 hc.2⟩
      · rw [if_neg hc] at h; cases h
    · obtain ⟨j, y, e, h1, h2⟩ := labsF_mem h
      exact ⟨j + 1, y, by rw [e]; congr 1; omega, by simpa using h1, h2⟩
theorem holdsF_mem {l : List Scn} {k : ByteArray} {z : Int} : ∀ {a : List Rec} {i : Nat}, z ∈ holdsF l a i k → ∃ j x, z = ((i + j : Nat) : Int) ∧ a[j]? = some x ∧ validF l x = true ∧ k ∈ x.con
  | [], i, h => by simp [holdsF] at h
  | x :: a, i, h => by
    simp only [holdsF, List.mem_append] at h
    rcases h with h | h
    · by_cases hc : validF l x = true
      · rw [if_pos hc] at h
        unfold inF at h
        obtain ⟨s, hs, rfl⟩ := List.mem_map.1 h
        simp only [List.mem_filter] at hs
        exact ⟨0, x, rfl, rfl, hc, (ba_beq _ _).1 hs.2 ▸ hs.1⟩
      · rw [if_neg hc] at h; cases h
    · obtain ⟨j, y, e, h1, h2⟩ := holdsF_mem h
      exact ⟨j + 1, y, by rw [e]; congr 1; omega, by simpa using h1, h2⟩
theorem compact_mem {zs : List Int} {x : Int} (h : x ∈ Lib.compact zs) : x ∈ zs := by
  unfold Lib.compact Lib.compactUpTo at h
  obtain ⟨j, hj, rfl⟩ := List.mem_map.1 h
  have hlt : j < zs.length := List.mem_range.1 (List.mem_filter.1 hj).1
  have : zs.toArray[j]! = zs[j] := by
    rw [getElem!_pos zs.toArray j (by simpa using hlt)]
    simp
  rw [this]
  exact List.getElem_mem hlt
theorem needsF_mem {ch : List Int} {i : Nat} {x : Int} (h : x ∈ needsF ch i) : x ∈ ch ∨ x = (i : Int) := by
  have := compact_mem h
  unfold srt at this
  rw [List.mem_mergeSort] at this
  simpa using this
/-- What is asked of a chain of manifests: that they are numbers of records. -/
def ChOk (rs : List Rec) (ch : List Int) : Prop := ∀ c ∈ ch, 0 ≤ c ∧ c < rs.length
def OffOk (l : List Scn) : Prop := ∀ s ∈ l, -9223372036854775808 ≤ s.off ∧ s.off ≤ 9223372036854775807
theorem evF_bd {l : List Scn} {rs : List Rec} {ch : List Int} {i : Nat} {x : Rec} (hx : rs[i]? = some x) (hv : validF l x = true) (hc : ChOk rs ch) (ho : OffOk l) (hl : ch.length ≤ 100) (hr : rs.length ≤ 1000) :
    ∀ z ∈ keyF (evF l rs ch i), -9223372036854775808 ≤ z ∧ z ≤ 9223372036854775807 := by
  obtain ⟨s0, s1, s, hs, e0, e1, t0, t1⟩ := valid_sc hv
  have hro : recOf rs i = x := by unfold recOf; rw [hx]; rfl
  have hso : scOf l x = s := by unfold scOf; rw [hs]; rfl
  have hil := (List.getElem?_eq_some_iff.1 hx).1
  have hnl := needsF_len ch i
  have hos := ho s (List.mem_of_getElem? hs)
  intro z hz
  simp only [keyF, evF, hro, hso, List.cons_append, List.nil_append, List.mem_cons] at hz
  rcases hz with rfl | rfl | rfl | rfl | hz
  · omega
  · exact hos
  · omega
  · omega
  · rcases needsF_mem hz with h | rfl
    · have := hc z h; omega
    · omega
end Go.Proofs.YthkmpegpmpdhaaaGreatDoor
