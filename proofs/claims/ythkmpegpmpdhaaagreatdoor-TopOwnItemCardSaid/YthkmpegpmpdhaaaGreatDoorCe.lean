/- Part of the proof of TopOwnItem. Conditions: as stated in each theorem. -/
import Derived.Test.YthkmpegpmpdhaaaGreatDoorCd
import Derived.WalkMore
import Derived.Maps.OwnIn
import Derived.Deep.LoopGhost
import Derived.RangeFuncNested
import Derived.RangeFuncCalls
import Derived.RangeFuncLeaves
import Derived.RangeFuncWrites
import Derived.Shelf.Abstract
import Derived.Shelf.RegionOpen
import Derived.OwnWalkIn
import Derived.TacticsInMore
import Derived.LoopNIn
import Derived.LoopIn
import Derived.RangeFuncBound
import Derived.Test.YthkmpegpmpdhaaaGreatDoorProg
import Derived.WalkKit
import Derived.WalkSpells
import Derived.WalkLawsBesides
import Derived.Laws.EntriesVeiled
import Derived.ProofKit
import Derived.OpenShut
import Derived.Lib.Hide
import Derived.BigQuiet
import Derived.Deep.QuietTactic
import Derived.Deep.CutRange
import Derived.StillTailTactics
import Derived.Lib.SliceRun
import Derived.RangeFuncRecord
import Derived.Carry
import Derived.ChangeKeysEq
import Derived.Below
import Derived.Laws.OwnMore
import Derived.Deep.AppendLies
import Derived.Deep.Draws
import Derived.Laws.Rows
import Derived.Maps.AppendAt
import Derived.RegionTactic
import Derived.OwnWalk
import Derived.Deep.RegionHeld3
namespace Go.Proofs.YthkmpegpmpdhaaaGreatDoor
open Go.Shelf Go.ChangeShapes Go.WideShapes Go.ChangeAt Go.RowKit
set_option linter.unusedSimpArgs false
set_option linter.unusedVariables false
theorem run_eq_si (a b c d e f : Int) (w : World) : (Op.equalIn 10000 45 (.agg #[.int .i64 a, .int .i64 b, .int .i64 c]) (.agg #[.int .i64 d, .int .i64 e, .int .i64 f])).run Tryz.prog w = .ok (a == d && b == e && c == f) w := by
  have u3 := Tryz.underlying3
  have a3 := Tryz.isAgg3
  have z3 := Tryz.sizeOf3
  have hS : Tryz.prog.underlying 45 = some (.struct (Tryz.prog.fieldsOf 45)) := by kernel_rfl
  have hp : Tryz.prog.stoodInHeld 45 = false := by kernel_rfl
  rw [show (10000 : Nat) = 9999 + 1 from rfl, run_equalIn_agg w 9999 45 _ _ hS hp]
  simp only [Program.fieldsOf, Tryz.underlying45]
  go_simp
  by_cases h1 : a = d <;> by_cases h2 : b = e <;> by_cases h3 : c = f <;> simp [h1, h2, h3]
def siEq (x y : Si) : Bool := x.off == y.off && x.lo == y.lo && x.hi == y.hi
theorem siEq_iff (x y : Si) : siEq x y = true ↔ x = y := by
  obtain ⟨a, b, c⟩ := x
  obtain ⟨d, e, f⟩ := y
  simp [siEq, and_assoc]
instance : DecidableEq Si := fun x y => decidable_of_iff _ (siEq_iff x y)
set_option maxRecDepth 100000 in
theorem siDeep : DeepKey Tryz.prog 45 siV siEq where
  equal := fun x y W => run_eq_si x.off x.lo x.hi y.off y.lo y.hi W
  check := fun e x W => by cases e <;> kernel_rfl
  stays := fun x y h => by
    have := (siEq_iff x y).1 h
    subst this
    exact ⟨rfl, by simp [siV, Instr.sameBits]⟩
  deep := ⟨_, Tryz.underlying45, fun x y => rfl⟩
theorem siKeys : KeyLaws Tryz.prog 45 siV siEq := siDeep.laws
theorem lookF_si (x : Si) : ∀ (S : List Si) (i : Nat), ((lookF siEq x (S.map fun s => (s, Value.bool true)) i).map (·.2)).getD (.bool false) = .bool (decide (x ∈ S))
  | [], i => by simp [lookF]
  | s :: S, i => by
    simp only [List.map_cons, lookF]
    by_cases h : siEq x s = true
    · rw [if_pos h]
      have := (siEq_iff x s).1 h
      simp [this]
    · rw [if_neg h, lookF_si x S]
      have : ¬ x = s := fun e => h ((siEq_iff x s).2 e)
      simp [this]
theorem setF_si (x : Si) (v : Value) : ∀ (S : List Si), x ∉ S → setF siEq x v (S.map fun s => (s, Value.bool true)) = (S.map fun s => (s, Value.bool true)) ++ [(x, v)]
  | [], _ => rfl
  | s :: S, h => by
    have h1 : ¬ siEq x s = true := fun e => h (by rw [(siEq_iff x s).1 e]; simp)
    simp only [List.map_cons, setF]
    rw [if_neg h1, setF_si x v S (fun hm => h (List.mem_cons_of_mem _ hm))]
    rfl
/-- Block r is the set of the sights S. -/
def SeenIs (W : World) (r : Nat) (S : List Si) : Prop := StIs W r (S.map siE)
theorem SeenIs.has {W : World} {r : Nat} {S : List Si} (h : SeenIs W r S) (x : Si) : (Instr.lookup 78 (.map (some r)) (siV x) false).run Tryz.prog W = .ok (.bool (decide (x ∈ S))) W := by
  have h' : StIs W r ((S.map fun s => (s, Value.bool true)).map fun e => (siV e.1, e.2)) := by rw [List.map_map]; exact h
  have := StIs.look siKeys Tryz.underlying78 false x W r _ h' (.bool false) (by kernel_rfl)
  rw [this, if_neg (by simp), lookF_si]
theorem SeenIs.put {W : World} {r : Nat} {S : List Si} (h : SeenIs W r S) (x : Si) (hx : x ∉ S) : ∃ W', (Instr.mapUpdate 78 (.map (some r)) (siV x) (.bool true)).run Tryz.prog W = .ok () W' ∧ SeenIs W' r (S ++ [x]) ∧ W.grownBy W' (some r) := by
  have h' : StIs W r ((S.map fun s => (s, Value.bool true)).map fun e => (siV e.1, e.2)) := by rw [List.map_map]; exact h
  obtain ⟨W', h1, h2, h3⟩ := StIs.put siKeys Tryz.underlying78 x (.bool true) W r _ h'
  refine ⟨W', h1, ?_, h3⟩
  rw [setF_si x _ S hx] at h2
  unfold SeenIs
  rw [List.map_append, List.map_map] at h2
  rw [List.map_append]
  exact h2
/-- Block r is the set of the numbers S. -/
def NumSet (W : World) (r : Nat) (S : List Int) : Prop := MapTo (fun x : Int => Value.int .i64 x) (fun a b => a == b) W r (fun k => if k ∈ S then some (.bool true) else none)
theorem NumSet.made (W : World) : NumSet (W.alloc (.map #[] 0)) W.heap.size [] := MapTo.congr (MapTo.made W) (fun k => by simp)
theorem NumSet.has {W : World} {r : Nat} {S : List Int} (h : NumSet W r S) (s : Int) : (Instr.lookup 79 (.map (some r)) (.int .i64 s) false).run Tryz.prog W = .ok (.bool (decide (s ∈ S))) W := by
  have := MapTo.look (intKeys Tryz.underlying3) Tryz.underlying79 false h (.bool false) (by kernel_rfl) s
  rw [this]
  by_cases hs : s ∈ S <;> simp [hs]
theorem NumSet.put {W : World} {r : Nat} {S : List Int} (h : NumSet W r S) (s : Int) : ∃ W', (Instr.mapUpdate 79 (.map (some r)) (.int .i64 s) (.bool true)).run Tryz.prog W = .ok () W' ∧ NumSet W' r (S ++ [s]) ∧ W.grownBy W' (some r) := by
  obtain ⟨W', h1, h2, h3⟩ := MapTo.put (intKeys Tryz.underlying3) (fun x y => by simp) Tryz.underlying79 h s (.bool true)
  refine ⟨W', h1, MapTo.congr h2 (fun k => ?_), h3⟩
  by_cases e : k = s
  · simp [e]
  · simp [e]
end Go.Proofs.YthkmpegpmpdhaaaGreatDoor
