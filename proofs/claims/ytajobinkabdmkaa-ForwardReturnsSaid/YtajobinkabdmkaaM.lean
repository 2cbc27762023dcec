/-
  Maps whose keys are structs or arrays, told by the list of their entries: what a look-up, a store and a make do. Conditions: as stated in each law.
-/
import Derived.WalkKit
import Derived.OwnWalk
import Derived.Carry
import Derived.RangeFuncRecord
namespace Go.Proofs.Ytajobinkabdmkaa
open Go.RowKit

/-- The first entry at key x. -/
def lookF {κ : Type} (eq : κ → κ → Bool) (x : κ) : List (κ × Value) → Nat → Option (Nat × Value)
  | [], _ => none
  | e :: es, i => if eq x e.1 then some (i, e.2) else lookF eq x es (i + 1)
/-- Block r is a map with just these entries, in this order. -/
def MapIs {κ : Type} (kv : κ → Value) (W : World) (r : Nat) (l : List (κ × Value)) : Prop :=
  ∃ es clock, W.heap[r]? = some (.map es clock) ∧ es.toList.map (fun e => (e.key, e.val)) = l.map fun e => (kv e.1, e.2)

/-- What the laws ask of a key's type: its '==', that it may be hashed, that it is no plain type. -/
structure KeyLaws {κ : Type} (P : Program) (K : TypeId) (kv : κ → Value) (eq : κ → κ → Bool) : Prop where
  equal : ∀ x y W, (Op.equal K (kv x) (kv y)).run P W = .ok (eq x y) W
  check : ∀ e x W, (Instr.checkKey e 10000 K (kv x)).run P W = .ok () W
  deep : ∃ d, P.underlying K = some d ∧ ∀ x y, Instr.sameNow d (kv x) (kv y) = none

section
variable {κ : Type} {P : Program} {K : TypeId} {kv : κ → Value} {eq : κ → κ → Bool}

theorem run_findAsking_is (L : KeyLaws P K kv eq) (x : κ) (W : World) : ∀ (es : List MapEntry) (l : List (κ × Value)) (i : Nat), es.map (fun e => (e.key, e.val)) = l.map (fun e => (kv e.1, e.2)) →
    (Instr.findAsking K (kv x) es i).run P W = .ok (lookF eq x l i) W
  | [], [], i, _ => by simp [Instr.findAsking, lookF]
  | e :: es, a :: l, i, h => by
    simp only [List.map_cons, List.cons.injEq, Prod.mk.injEq] at h
    obtain ⟨⟨h1, h2⟩, h3⟩ := h
    simp only [Instr.findAsking, Sem.run_bind, h1, L.equal, Result.andThen_ok, Sem.run_ite, lookF]
    by_cases hb : eq x a.1 = true
    · simp [hb, h2]
    · simp only [hb]
      simpa using run_findAsking_is L x W es l (i + 1) h3
  | [], a :: l, i, h => by simp at h
  | e :: es, [], i, h => by simp at h

theorem run_findKey_is (L : KeyLaws P K kv eq) (x : κ) (W : World) (es : List MapEntry) (l : List (κ × Value)) (h : es.map (fun e => (e.key, e.val)) = l.map (fun e => (kv e.1, e.2))) :
    (Instr.findKey K (kv x) es).run P W = .ok (lookF eq x l 0) W := by
  obtain ⟨d, hd, hs⟩ := L.deep
  simp only [Instr.findKey, Sem.run_bind, run_underlying hd, Result.andThen_ok]
  cases es with
  | nil =>
    cases l with
    | nil => simp [Instr.findNow, lookF]
    | cons a l => simp at h
  | cons e es =>
    cases l with
    | nil => simp at h
    | cons a l =>
      have hk : e.key = kv a.1 := by simp at h; exact h.1.1
      have : Instr.findNow d (kv x) (e :: es) 0 = none := by simp [Instr.findNow, hk, hs]
      simp only [this]
      exact run_findAsking_is L x W _ _ 0 h

theorem run_lookup_is (L : KeyLaws P K kv eq) {T E : TypeId} (hT : P.underlying T = some (.map K E)) (ok : Bool) (x : κ) (W : World) (r : Nat) (l : List (κ × Value)) (hm : MapIs kv W r l) (z : Value) (hz : (zeroValue E).run P W = .ok z W) :
    (Instr.lookup T (.map (some r)) (kv x) ok).run P W = .ok (if ok then .tuple #[((lookF eq x l 0).map (·.2)).getD z, .bool (lookF eq x l 0).isSome] else ((lookF eq x l 0).map (·.2)).getD z) W := by
  obtain ⟨es, clock, hr, he⟩ := hm
  have hget : (getObj r).run P W = .ok (.map es clock) W := by simp [getObj, Sem.run, hr]
  simp only [Instr.lookup, Sem.run_bind, run_underlying hT, Result.andThen_ok, hget, Sem.run_pure, L.check, run_findKey_is L x W es.toList l he]
  cases hl : lookF eq x l 0 with
  | none => simp [hz]
  | some p => simp

theorem run_update_is (L : KeyLaws P K kv eq) {T E : TypeId} (hT : P.underlying T = some (.map K E)) (x : κ) (v : Value) (W : World) (r : Nat) (l : List (κ × Value)) (hm : MapIs kv W r l) (hn : lookF eq x l 0 = none) :
    ∃ W', (Instr.mapUpdate T (.map (some r)) (kv x) v).run P W = .ok () W' ∧ MapIs kv W' r (l ++ [(x, v)]) ∧ W.grownBy W' (some r) := by
  obtain ⟨es, clock, hr, he⟩ := hm
  have hget : (getObj r).run P W = .ok (.map es clock) W := by simp [getObj, Sem.run, hr]
  have hset : ∀ o, (setObj r o).run P W = .ok () (W.putObj r o) := fun o => by simp [setObj, Sem.run, hr, World.putObj]
  simp only [Instr.mapUpdate, Sem.run_bind, run_underlying hT, Result.andThen_ok, hget, L.check, run_findKey_is L x W es.toList l he, hn, hset]
  refine ⟨_, rfl, ⟨_, _, World.putObj_heap_same (Array.getElem?_eq_some_iff.1 hr).1, ?_⟩, ⟨rfl, rfl, rfl, by simp, fun k _ hk => World.putObj_heap_other (fun e => hk (by rw [e]))⟩⟩
  simp [he]
end
end Go.Proofs.Ytajobinkabdmkaa
