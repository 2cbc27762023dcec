/- Part of the proof of x. Conditions: as stated in each theorem. -/
import Derived.Test.YthkmpegpmpdhaaaGreatDoorZF
import Derived.Test.YthkmpegpmpdhaaaGreatDoorZV
import Derived.Test.YthkmpegpmpdhaaaGreatDoorProg
import Derived.Maps.RangeRun
import Derived.Maps.Range
import Derived.WalkKit
import Derived.WalkSpells
import Derived.WalkLawsBesides
import Derived.Laws.EntriesVeiled
import Derived.ProofKit
import Derived.OpenShut
import Derived.Lib.Hide
import Derived.BigQuiet
import Derived.Deep.QuietTactic
import Derived.Deep.CutRange
import Derived.StillTailTactics
import Derived.Lib.SliceRun
import Derived.RangeFuncRecord
import Derived.Carry
import Derived.ChangeKeysEq
import Derived.Below
import Derived.Laws.OwnMore
import Derived.Deep.AppendLies
import Derived.Deep.Draws
import Derived.Laws.Rows
import Derived.Maps.AppendAt
import Derived.RegionTactic
import Derived.OwnWalk
import Derived.Deep.RegionHeld3
namespace Go.Proofs.YthkmpegpmpdhaaaGreatDoor
open Go.ChangeShapes Go.WideShapes Go.ChangeAt Go.RowKit
set_option linter.unusedSimpArgs false
set_option linter.unusedVariables false
/-- Block r is a map with just these entries, in this order, each with a stamp of its own. -/
def StIs (W : World) (r : Nat) (l : List (Value × Value)) : Prop :=
  ∃ es clock, W.heap[r]? = some (.map es clock) ∧ es.toList.map (fun e => (e.key, e.val)) = l ∧ (∀ x ∈ es.toList, x.born < clock) ∧ (es.toList.map (·.born)).Nodup
theorem StIs.same {W W' : World} {r : Nat} {l : List (Value × Value)} (h : StIs W r l) (e : W'.heap[r]? = W.heap[r]?) : StIs W' r l := by
  obtain ⟨es, cl, hr, rest⟩ := h
  exact ⟨es, cl, e.trans hr, rest⟩
theorem StIs.lt {W : World} {r : Nat} {l : List (Value × Value)} (h : StIs W r l) : r < W.heap.size := by
  obtain ⟨es, cl, hr, _⟩ := h
  exact (Array.getElem?_eq_some_iff.1 hr).1
theorem StIs.at_ {W : World} {r : Nat} {l : List (Value × Value)} (h : StIs W r l) : MapAt W r := by
  obtain ⟨es, cl, hr, _⟩ := h
  exact ⟨es, cl, hr⟩
theorem StIs.keep {W W' : World} {r : Nat} {l : List (Value × Value)} (h : StIs W r l) (hk : Keeps W W') : StIs W' r l := h.same (hk.block r h.lt)
theorem StIs.grown {W W' : World} {r : Nat} {l : List (Value × Value)} {row : Option Nat} (h : StIs W r l) (hg : W.grownBy W' row) (hne : row ≠ some r) : StIs W' r l := h.same (hg.block r h.lt (fun e => hne e.symm))
theorem StIs.made (W : World) : StIs (W.alloc (.map #[] 0)) W.heap.size [] := ⟨#[], 0, heap_alloc_new W _, rfl, fun x hx => by simp at hx, by simp⟩
theorem born_modify (f : MapEntry → MapEntry) (hf : ∀ e, (f e).born = e.born) : ∀ (l : List MapEntry) (i : Nat), (l.modify i f).map (·.born) = l.map (·.born)
  | [], i => by simp
  | x :: l, 0 => by simp [hf]
  | x :: l, i + 1 => by simp [born_modify f hf l i]
section
variable {κ : Type} {P : Program} {K : TypeId} {kv : κ → Value} {eq : κ → κ → Bool}
theorem StIs.put (L : KeyLaws P K kv eq) {T E : TypeId} (hT : P.underlying T = some (.map K E)) (x : κ) (v : Value) (W : World) (r : Nat) (l : List (κ × Value)) (hm : StIs W r (l.map fun e => (kv e.1, e.2))) :
    ∃ W', (Instr.mapUpdate T (.map (some r)) (kv x) v).run P W = .ok () W' ∧ StIs W' r ((setF eq x v l).map fun e => (kv e.1, e.2)) ∧ W.grownBy W' (some r) := by
  obtain ⟨es, clock, hr, he, hb, hn⟩ := hm
  have hget : (getObj r).run P W = .ok (.map es clock) W := by simp [getObj, Sem.run, hr]
  have hset : ∀ o, (setObj r o).run P W = .ok () (W.putObj r o) := fun o => by simp [setObj, Sem.run, hr, World.putObj]
  cases hl : lookF eq x l 0 with
  | none =>
    simp only [Instr.mapUpdate, Sem.run_bind, run_underlying hT, Result.andThen_ok, hget, L.check, L.find x W es.toList l he, hl, hset]
    refine ⟨_, rfl, ⟨_, _, World.putObj_heap_same (Array.getElem?_eq_some_iff.1 hr).1, ?_, ?_, ?_⟩, ⟨rfl, rfl, rfl, by simp, fun k _ hk => World.putObj_heap_other (fun e => hk (by rw [e]))⟩⟩
    · rw [look_set_none hl]; simp [he]
    · intro y hy
      simp only [Array.toList_push, List.mem_append, List.mem_singleton] at hy
      rcases hy with hy | rfl
      · have := hb y hy; omega
      · simp
    · simp only [Array.toList_push, List.map_append, List.map_cons, List.map_nil]
      rw [List.nodup_append]
      refine ⟨hn, by simp, fun a ha b hb' => ?_⟩
      simp only [List.mem_singleton] at hb'
      subst hb'
      obtain ⟨y, hy, rfl⟩ := List.mem_map.1 ha
      have := hb y hy
      omega
  | some p =>
    obtain ⟨i, old⟩ := p
    obtain ⟨h1, e, h2, y, h3, h4⟩ := modify_set (kv := kv) (key := kv x) x v es.toList l i 0 old he hl rfl
    obtain ⟨h5, h6⟩ := L.stays x y h3
    have hkey : ((es[i]?).map (·.key)).getD (kv x) = kv x := by
      have : es[i]? = some e := by simpa using h2
      rw [this]; simp [h4, h5]
    have hst : ∀ W, (Instr.keyThatStays (kv x) (kv x)).run P W = .ok (kv x) W := fun W => by simp [Instr.keyThatStays, h6]
    simp only [Instr.mapUpdate, Sem.run_bind, run_underlying hT, Result.andThen_ok, hget, L.check, L.find x W es.toList l he, hl, hkey, hst, hset]
    refine ⟨_, rfl, ⟨_, _, World.putObj_heap_same (Array.getElem?_eq_some_iff.1 hr).1, ?_, ?_, ?_⟩, ⟨rfl, rfl, rfl, by simp, fun k _ hk => World.putObj_heap_other (fun e => hk (by rw [e]))⟩⟩
    · rw [← h1]; simp [Array.toList_modify]
    · intro z hz
      rw [Array.toList_modify] at hz
      have hzb : z.born ∈ (es.toList.modify i fun e => { e with key := kv x, val := v }).map (·.born) := List.mem_map_of_mem hz
      rw [born_modify (fun e => { e with key := kv x, val := v }) (fun e => rfl)] at hzb
      obtain ⟨y', hy', e'⟩ := List.mem_map.1 hzb
      have := hb y' hy'
      omega
    · rw [Array.toList_modify, born_modify (fun e => { e with key := kv x, val := v }) (fun e => rfl)]
      exact hn
theorem StIs.look (L : KeyLaws P K kv eq) {T E : TypeId} (hT : P.underlying T = some (.map K E)) (ok : Bool) (x : κ) (W : World) (r : Nat) (l : List (κ × Value)) (hm : StIs W r (l.map fun e => (kv e.1, e.2))) (z : Value) (hz : (zeroValue E).run P W = .ok z W) :
    (Instr.lookup T (.map (some r)) (kv x) ok).run P W = .ok (if ok then .tuple #[((lookF eq x l 0).map (·.2)).getD z, .bool (lookF eq x l 0).isSome] else ((lookF eq x l 0).map (·.2)).getD z) W := by
  obtain ⟨es, clock, hr, he, _⟩ := hm
  exact run_lookup_is L hT ok x W r l ⟨es, clock, hr, he⟩ z hz
end
/-- Block r is an iterator over the map at b: these entries are still to come. -/
def RgIs (W : World) (b r : Nat) (rem : List (Value × Value)) : Prop :=
  ∃ es clock since seen c0, W.heap[b]? = some (.map es clock) ∧ W.heap[r]? = some (.mapIter (some b) since seen c0) ∧ (∀ x ∈ es.toList, x.born < since) ∧ since ≤ c0 ∧ since ≤ clock ∧ (es.toList.map (·.born)).Nodup ∧
    (leftOf es seen).toList.map (fun e => (e.key, e.val)) = rem
theorem RgIs.same {W W' : World} {b r : Nat} {rem : List (Value × Value)} (h : RgIs W b r rem) (e1 : W'.heap[b]? = W.heap[b]?) (e2 : W'.heap[r]? = W.heap[r]?) : RgIs W' b r rem := by
  obtain ⟨es, cl, si, se, c0, h1, h2, rest⟩ := h
  exact ⟨es, cl, si, se, c0, e1.trans h1, e2.trans h2, rest⟩
theorem RgIs.lt {W : World} {b r : Nat} {rem : List (Value × Value)} (h : RgIs W b r rem) : b < W.heap.size ∧ r < W.heap.size := by
  obtain ⟨es, cl, si, se, c0, h1, h2, rest⟩ := h
  exact ⟨(Array.getElem?_eq_some_iff.1 h1).1, (Array.getElem?_eq_some_iff.1 h2).1⟩
theorem RgIs.keep {W W' : World} {b r : Nat} {rem : List (Value × Value)} (h : RgIs W b r rem) (hk : Keeps W W') : RgIs W' b r rem := h.same (hk.block b h.lt.1) (hk.block r h.lt.2)
theorem RgIs.grown {W W' : World} {b r : Nat} {rem : List (Value × Value)} {row : Option Nat} (h : RgIs W b r rem) (hg : W.grownBy W' row) (h1 : row ≠ some b) (h2 : row ≠ some r) : RgIs W' b r rem := h.same (hg.block b h.lt.1 (fun e => h1 e.symm)) (hg.block r h.lt.2 (fun e => h2 e.symm))
theorem StIs.range {P : Program} {T K E : TypeId} (hT : P.underlying T = some (.map K E)) {W : World} {b : Nat} {l : List (Value × Value)} (h : StIs W b l) :
    ∃ W', (Instr.range T (.map (some b))).run P W = .ok (.pointer (some ⟨W.heap.size, 0, none⟩)) W' ∧ RgIs W' b W.heap.size l ∧ Keeps W W' := by
  have hlt := h.lt
  obtain ⟨es, clock, hb, he, hbo, hn⟩ := h
  refine ⟨_, run_range_map W T K E b es clock hT hb, ⟨es, clock, clock, #[], clock, ((Below.heap_alloc W _ b hlt)).trans hb, heap_alloc_new W _, hbo, Nat.le_refl _, Nat.le_refl _, hn, ?_⟩, (Keeps.refl W).alloc _⟩
  rw [← he]
  congr 1
  unfold leftOf
  rw [Array.toList_filter]
  exact List.filter_eq_self.2 (fun x _ => by simp)
theorem filter_perm_one {α : Type} [DecidableEq Nat] (f : α → Nat) (p : α → Bool) : ∀ (l : List α) (e : α), (l.map f).Nodup → e ∈ l → p e = true → (l.filter p).Perm (e :: l.filter fun x => p x && !(f x == f e))
  | [], e, _, he, _ => by simp at he
  | a :: l, e, hn, he, hp => by
    rw [List.map_cons, List.nodup_cons] at hn
    rcases List.mem_cons.1 he with rfl | he
    · rw [List.filter_cons, if_pos hp, List.filter_cons, if_neg (by simp)]
      refine List.Perm.cons _ (List.Perm.of_eq (List.filter_congr fun x hx => ?_))
      have : f x ≠ f e := fun h => hn.1 (h ▸ List.mem_map_of_mem hx)
      simp [this]
    · have hne : f a ≠ f e := fun h => hn.1 (h ▸ List.mem_map_of_mem he)
      have ih := filter_perm_one f p l e hn.2 he hp
      by_cases hpa : p a = true
      · rw [List.filter_cons, if_pos hpa, List.filter_cons, if_pos (by simp [hpa, hne])]
        exact (List.Perm.cons a ih).trans (List.Perm.swap e a _)
      · rw [List.filter_cons, if_neg hpa, List.filter_cons, if_neg (by simp [hpa])]
        exact ih
theorem RgIs.next {P : Program} {W : World} {b r : Nat} {rem : List (Value × Value)} (h : RgIs W b r rem) (ty : TypeId) :
    (rem = [] ∧ (Instr.next (.pointer (some ⟨r, 0, none⟩)) false ty).run P W = .ok (.tuple #[.bool false]) W) ∨
    ∃ k v rem' W', rem.Perm ((k, v) :: rem') ∧ (Instr.next (.pointer (some ⟨r, 0, none⟩)) false ty).run P W = .ok (.tuple #[.bool true, k, v]) W' ∧ RgIs W' b r rem' ∧ W.grownBy W' (some r) ∧ (Instr.entry (.pointer (some ⟨r, 0, none⟩))).run P W' = .ok (.tuple #[k, v]) W' := by
  obtain ⟨es, clock, since, seen, c0, hb, hr, hold, hsc, hsk, hn, hrem⟩ := h
  have hne : r ≠ b := by intro e; rw [e, hb] at hr; cases hr
  rcases run_next_at (P := P) W ty r b since c0 seen es clock hr hb hold hsc with ⟨h0, hrun⟩ | ⟨e, he, w1, hal, hrun⟩
  · refine .inl ⟨?_, hrun⟩
    have : leftOf es seen = #[] := Array.eq_empty_of_size_eq_zero h0
    rw [← hrem, this]; rfl
  · have hr1 : w1.heap[r]? = some (.mapIter (some b) since seen c0) := by rcases hal with rfl | rfl <;> exact hr
    have hb1 : w1.heap[b]? = some (.map es clock) := by rcases hal with rfl | rfl <;> exact hb
    have hlt := (Array.getElem?_eq_some_iff.1 hr1).1
    have hs1 : (ChangeMaps.setBlock w1 r (.mapIter (some b) since (seen.push e.born) clock)).heap[r]? = some (.mapIter (some b) since (seen.push e.born) clock) := by simp [ChangeMaps.setBlock, hlt]
    have hs2 : ∀ i, i ≠ r → (ChangeMaps.setBlock w1 r (.mapIter (some b) since (seen.push e.born) clock)).heap[i]? = w1.heap[i]? := fun i hi => by simp only [ChangeMaps.setBlock]; rw [Array.getElem?_setIfInBounds, if_neg (fun h => hi h.symm)]
    have hb' := (hs2 b (fun e1 => hne e1.symm)).trans hb1
    have hem := mem_left he
    refine .inr ⟨e.key, e.val, (leftOf es (seen.push e.born)).toList.map (fun e => (e.key, e.val)), _, ?_, hrun, ⟨es, clock, since, seen.push e.born, clock, hb', hs1, hold, hsk, hsk, hn, rfl⟩, ?_, run_entry_at _ r b since seen es clock e hs1 hb' hem.1 hn⟩
    · rw [← hrem]
      unfold leftOf
      rw [Array.toList_filter, Array.toList_filter]
      have := (filter_perm_one (fun x : MapEntry => x.born) (fun x => !seen.contains x.born) es.toList e hn hem.1 (by simp only [hem.2]; rfl)).map (fun e => (e.key, e.val))
      refine this.trans (List.Perm.of_eq ?_)
      rw [List.map_cons]
      congr 2
      refine List.filter_congr fun x hx => ?_
      rw [contains_push]
      cases seen.contains x.born <;> cases (x.born == e.born) <;> rfl
    · rcases hal with rfl | rfl <;> exact ⟨rfl, rfl, rfl, by simp [ChangeMaps.setBlock], fun i _ hi => hs2 i (fun e1 => hi (by rw [e1]))⟩
end Go.Proofs.YthkmpegpmpdhaaaGreatDoor
