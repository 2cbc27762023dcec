/- Part of the proof of TopOwnItem. Conditions: as stated in each theorem. -/
import Derived.Test.YthkmpegpmpdhaaaGreatDoorA
import Derived.Test.YthkmpegpmpdhaaaGreatDoorProg
import Derived.WalkKit
import Derived.WalkSpells
import Derived.WalkLawsBesides
import Derived.Laws.EntriesVeiled
import Derived.ProofKit
import Derived.OpenShut
import Derived.Lib.Hide
import Derived.BigQuiet
import Derived.Deep.QuietTactic
import Derived.Deep.CutRange
import Derived.StillTailTactics
import Derived.Lib.SliceRun
import Derived.RangeFuncRecord
import Derived.Carry
import Derived.ChangeKeysEq
import Derived.Below
import Derived.Laws.OwnMore
import Derived.Deep.AppendLies
import Derived.Deep.Draws
import Derived.Laws.Rows
import Derived.Maps.AppendAt
import Derived.RegionTactic
import Derived.OwnWalk
import Derived.Deep.RegionHeld3
namespace Go.Proofs.YthkmpegpmpdhaaaGreatDoor
open Go.ChangeShapes Go.WideShapes Go.ChangeAt Go.RowKit
set_option linter.unusedSimpArgs false
set_option linter.unusedVariables false
/-- The first entry at key x. -/
def lookF {κ : Type} (eq : κ → κ → Bool) (x : κ) : List (κ × Value) → Nat → Option (Nat × Value)
  | [], _ => none
  | e :: es, i => if eq x e.1 then some (i, e.2) else lookF eq x es (i + 1)
/-- Block r is a map with just these entries, in this order. -/
def MapIs {κ : Type} (kv : κ → Value) (W : World) (r : Nat) (l : List (κ × Value)) : Prop :=
  ∃ es clock, W.heap[r]? = some (.map es clock) ∧ es.toList.map (fun e => (e.key, e.val)) = l.map fun e => (kv e.1, e.2)

/-- What the laws ask of a key's type that is no plain one: its '==', that it may be hashed, that it is no plain type. -/
structure DeepKey {κ : Type} (P : Program) (K : TypeId) (kv : κ → Value) (eq : κ → κ → Bool) : Prop where
  equal : ∀ x y W, (Op.equal K (kv x) (kv y)).run P W = .ok (eq x y) W
  check : ∀ e x W, (Instr.checkKey e 10000 K (kv x)).run P W = .ok () W
  stays : ∀ x y, eq x y = true → kv x = kv y ∧ Instr.sameBits 10000 (kv x) (kv x) = true
  deep : ∃ d, P.underlying K = some d ∧ ∀ x y, Instr.sameNow d (kv x) (kv y) = none

/-- What the laws ask of a key's type: that a key is found where it is, that it may be hashed, that equal keys are one. -/
structure KeyLaws {κ : Type} (P : Program) (K : TypeId) (kv : κ → Value) (eq : κ → κ → Bool) : Prop where
  find : ∀ (x : κ) (W : World) (es : List MapEntry) (l : List (κ × Value)), es.map (fun e => (e.key, e.val)) = l.map (fun e => (kv e.1, e.2)) → (Instr.findKey K (kv x) es).run P W = .ok (lookF eq x l 0) W
  check : ∀ e x W, (Instr.checkKey e 10000 K (kv x)).run P W = .ok () W
  stays : ∀ x y, eq x y = true → kv x = kv y ∧ Instr.sameBits 10000 (kv x) (kv x) = true
section
variable {κ : Type} {P : Program} {K : TypeId} {kv : κ → Value} {eq : κ → κ → Bool}

theorem run_findAsking_is (L : DeepKey P K kv eq) (x : κ) (W : World) : ∀ (es : List MapEntry) (l : List (κ × Value)) (i : Nat), es.map (fun e => (e.key, e.val)) = l.map (fun e => (kv e.1, e.2)) →
    (Instr.findAsking K (kv x) es i).run P W = .ok (lookF eq x l i) W
  | [], [], i, _ => by simp [Instr.findAsking, lookF]
  | e :: es, a :: l, i, h => by
    simp only [List.map_cons, List.cons.injEq, Prod.mk.injEq] at h
    obtain ⟨⟨h1, h2⟩, h3⟩ := h
    simp only [Instr.findAsking, Sem.run_bind, h1, L.equal, Result.andThen_ok, Sem.run_ite, lookF]
    by_cases hb : eq x a.1 = true
    · simp [hb, h2]
    · simp only [hb]
      simpa using run_findAsking_is L x W es l (i + 1) h3
  | [], a :: l, i, h => by simp at h
  | e :: es, [], i, h => by simp at h

theorem DeepKey.findKey (L : DeepKey P K kv eq) (x : κ) (W : World) (es : List MapEntry) (l : List (κ × Value)) (h : es.map (fun e => (e.key, e.val)) = l.map (fun e => (kv e.1, e.2))) :
    (Instr.findKey K (kv x) es).run P W = .ok (lookF eq x l 0) W := by
  obtain ⟨d, hd, hs⟩ := L.deep
  simp only [Instr.findKey, Sem.run_bind, run_underlying hd, Result.andThen_ok]
  cases es with
  | nil =>
    cases l with
    | nil => simp [Instr.findNow, lookF]
    | cons a l => simp at h
  | cons e es =>
    cases l with
    | nil => simp at h
    | cons a l =>
      have hk : e.key = kv a.1 := by simp at h; exact h.1.1
      have : Instr.findNow d (kv x) (e :: es) 0 = none := by simp [Instr.findNow, hk, hs]
      simp only [this]
      exact run_findAsking_is L x W _ _ 0 h
theorem DeepKey.laws (L : DeepKey P K kv eq) : KeyLaws P K kv eq := ⟨fun x W es l h => L.findKey x W es l h, L.check, L.stays⟩
theorem run_lookup_is (L : KeyLaws P K kv eq) {T E : TypeId} (hT : P.underlying T = some (.map K E)) (ok : Bool) (x : κ) (W : World) (r : Nat) (l : List (κ × Value)) (hm : MapIs kv W r l) (z : Value) (hz : (zeroValue E).run P W = .ok z W) :
    (Instr.lookup T (.map (some r)) (kv x) ok).run P W = .ok (if ok then .tuple #[((lookF eq x l 0).map (·.2)).getD z, .bool (lookF eq x l 0).isSome] else ((lookF eq x l 0).map (·.2)).getD z) W := by
  obtain ⟨es, clock, hr, he⟩ := hm
  have hget : (getObj r).run P W = .ok (.map es clock) W := by simp [getObj, Sem.run, hr]
  simp only [Instr.lookup, Sem.run_bind, run_underlying hT, Result.andThen_ok, hget, Sem.run_pure, L.check, L.find x W es.toList l he]
  cases hl : lookF eq x l 0 with
  | none => simp [hz]
  | some p => simp


def setF {κ : Type} (eq : κ → κ → Bool) (x : κ) (v : Value) : List (κ × Value) → List (κ × Value)
  | [] => [(x, v)]
  | e :: es => if eq x e.1 then (x, v) :: es else e :: setF eq x v es
theorem look_set_none {eq : κ → κ → Bool} {x : κ} {v : Value} : ∀ {l : List (κ × Value)} {i : Nat}, lookF eq x l i = none → setF eq x v l = l ++ [(x, v)]
  | [], _, _ => rfl
  | e :: es, i, h => by
    simp only [lookF] at h
    by_cases hb : eq x e.1 = true
    · rw [if_pos hb] at h; cases h
    · rw [if_neg hb] at h
      simp only [setF, if_neg hb, List.cons_append, look_set_none h]
theorem modify_set (x : κ) (v : Value) {key : Value} : ∀ (es : List MapEntry) (l : List (κ × Value)) (i j : Nat) (old : Value), es.map (fun e => (e.key, e.val)) = l.map (fun e => (kv e.1, e.2)) → lookF eq x l j = some (i + j, old) → key = kv x →
    (es.modify i fun e => { e with key := key, val := v }).map (fun e => (e.key, e.val)) = (setF eq x v l).map (fun e => (kv e.1, e.2)) ∧ ∃ e, es[i]? = some e ∧ ∃ y, eq x y = true ∧ e.key = kv y
  | [], [], i, j, old, _, h, _ => by simp [lookF] at h
  | e :: es, a :: l, i, j, old, hm, h, hk => by
    simp only [List.map_cons, List.cons.injEq, Prod.mk.injEq] at hm
    obtain ⟨⟨h1, h2⟩, h3⟩ := hm
    simp only [lookF] at h
    by_cases hb : eq x a.1 = true
    · rw [if_pos hb] at h
      injection h with h
      injection h with h4 h5
      have hi : i = 0 := by omega
      subst hi
      simp only [setF, if_pos hb, List.modify_zero_cons, List.map_cons, h3, hk]
      exact ⟨trivial, e, rfl, a.1, hb, h1⟩
    · rw [if_neg hb] at h
      obtain ⟨i', rfl⟩ : ∃ i', i = i' + 1 := by
        refine ⟨i - 1, ?_⟩
        have : ∀ (l : List (κ × Value)) (j i : Nat) (old : Value), lookF eq x l j = some (i, old) → j ≤ i := by
          intro l
          induction l with
          | nil => intro j i old h; simp [lookF] at h
          | cons b l ih =>
            intro j i old h
            simp only [lookF] at h
            split at h
            · injection h with h; injection h with h _; omega
            · have := ih _ _ _ h; omega
        have := this _ _ _ _ h
        omega
      have ih := modify_set x v es l i' (j + 1) old h3 (by rw [h]; congr 2; omega) hk
      simp only [setF, if_neg hb, List.modify_succ_cons, List.map_cons, h1, h2, ih.1]
      refine ⟨trivial, ?_⟩
      simpa using ih.2
  | [], a :: l, _, _, _, h, _, _ => by simp at h
  | e :: es, [], _, _, _, h, _, _ => by simp at h
theorem run_update_any (L : KeyLaws P K kv eq) {T E : TypeId} (hT : P.underlying T = some (.map K E)) (x : κ) (v : Value) (W : World) (r : Nat) (l : List (κ × Value)) (hm : MapIs kv W r l) :
    ∃ W', (Instr.mapUpdate T (.map (some r)) (kv x) v).run P W = .ok () W' ∧ MapIs kv W' r (setF eq x v l) ∧ W.grownBy W' (some r) := by
  obtain ⟨es, clock, hr, he⟩ := hm
  have hget : (getObj r).run P W = .ok (.map es clock) W := by simp [getObj, Sem.run, hr]
  have hset : ∀ o, (setObj r o).run P W = .ok () (W.putObj r o) := fun o => by simp [setObj, Sem.run, hr, World.putObj]
  cases hl : lookF eq x l 0 with
  | none =>
    simp only [Instr.mapUpdate, Sem.run_bind, run_underlying hT, Result.andThen_ok, hget, L.check, L.find x W es.toList l he, hl, hset]
    refine ⟨_, rfl, ⟨_, _, World.putObj_heap_same (Array.getElem?_eq_some_iff.1 hr).1, ?_⟩, ⟨rfl, rfl, rfl, by simp, fun k _ hk => World.putObj_heap_other (fun e => hk (by rw [e]))⟩⟩
    rw [look_set_none hl]; simp [he]
  | some p =>
    obtain ⟨i, old⟩ := p
    obtain ⟨h1, e, h2, y, h3, h4⟩ := modify_set (kv := kv) (key := kv x) x v es.toList l i 0 old he hl rfl
    obtain ⟨h5, h6⟩ := L.stays x y h3
    have hkey : ((es[i]?).map (·.key)).getD (kv x) = kv x := by
      have : es[i]? = some e := by simpa using h2
      rw [this]; simp [h4, h5]
    have hst : ∀ W, (Instr.keyThatStays (kv x) (kv x)).run P W = .ok (kv x) W := fun W => by simp [Instr.keyThatStays, h6]
    simp only [Instr.mapUpdate, Sem.run_bind, run_underlying hT, Result.andThen_ok, hget, L.check, L.find x W es.toList l he, hl, hkey, hst, hset]
    refine ⟨_, rfl, ⟨_, _, World.putObj_heap_same (Array.getElem?_eq_some_iff.1 hr).1, ?_⟩, ⟨rfl, rfl, rfl, by simp, fun k _ hk => World.putObj_heap_other (fun e => hk (by rw [e]))⟩⟩
    rw [← h1]; simp [Array.toList_modify]
theorem look_set [DecidableEq κ] {eq : κ → κ → Bool} (h1 : ∀ x y, eq x y = true ↔ x = y) (x y : κ) (v : Value) : ∀ (l : List (κ × Value)) (i : Nat), (lookF eq y (setF eq x v l) i).map (·.2) = if y = x then some v else (lookF eq y l i).map (·.2)
  | [], i => by
    simp only [setF, lookF]
    by_cases e : y = x
    · subst e; simp [(h1 y y).2 rfl]
    · have : ¬ eq y x = true := fun h => e ((h1 y x).1 h)
      simp [this, e]
  | a :: l, i => by
    have ih := look_set h1 x y v l (i + 1)
    simp only [setF]
    by_cases hb : eq x a.1 = true
    · rw [if_pos hb]
      have hx := (h1 _ _).1 hb
      simp only [lookF]
      by_cases e : y = x
      · subst e; simp [(h1 y y).2 rfl]
      · have h2 : ¬ eq y x = true := fun h => e ((h1 y x).1 h)
        have h3 : ¬ eq y a.1 = true := by rw [← hx]; exact h2
        simp [h2, h3, e]
    · rw [if_neg hb]
      simp only [lookF]
      by_cases e2 : eq y a.1 = true
      · have hy := (h1 _ _).1 e2
        have hne : y ≠ x := fun e => hb (by rw [← e, hy]; exact (h1 _ _).2 rfl)
        simp [e2, hne]
      · simp only [if_neg e2]; exact ih
end


section
variable {P : Program} {K : TypeId}
theorem findNow_int {q : IntKind} (k : IntKind) (x : Int) : ∀ (es : List MapEntry) (l : List (Int × Value)) (i : Nat), es.map (fun e => (e.key, e.val)) = l.map (fun e => (Value.int q e.1, e.2)) →
    Instr.findNow (.int k) (.int q x) es i = some (lookF (fun a b => a == b) x l i)
  | [], [], i, _ => rfl
  | e :: es, a :: l, i, h => by
    simp only [List.map_cons, List.cons.injEq, Prod.mk.injEq] at h
    obtain ⟨⟨h1, h2⟩, h3⟩ := h
    have ih := findNow_int k x es l (i + 1) h3
    by_cases hb : x = a.1
    · simp [Instr.findNow, Instr.sameNow, h1, h2, lookF, hb]
    · have hb' : (x == a.1) = false := by simpa using hb
      simp only [Instr.findNow, Instr.sameNow, h1, lookF, if_true, hb', ih]
      simp
  | [], a :: l, i, h => by simp at h
  | e :: es, [], i, h => by simp at h
theorem check_int {q k : IntKind} (hK : P.underlying K = some (.int k)) (e : Bool) (n : Nat) (x : Int) (W : World) : (Instr.checkKey e (n + 1) K (.int q x)).run P W = .ok () W := by
  simp only [Instr.checkKey, Sem.run_bind, run_underlying hK, Result.andThen_ok, Sem.run_pure]
theorem intKeys {q k : IntKind} (hK : P.underlying K = some (.int k)) : KeyLaws P K (fun x : Int => Value.int q x) (fun a b => a == b) where
  find := fun x W es l h => by
    simp only [Instr.findKey, Sem.run_bind, run_underlying hK, Result.andThen_ok, findNow_int k x es l 0 h, Sem.run_pure]
  check := fun e x W => check_int hK e 9999 x W
  stays := fun x y h => by
    have : x = y := by simpa using h
    subst this
    exact ⟨rfl, by simp [Instr.sameBits]⟩
end
section
variable {κ : Type} {P : Program} {K : TypeId} {kv : κ → Value} {eq : κ → κ → Bool}
/-- Block r is a map that holds what g says. -/
def MapTo (kv : κ → Value) (eq : κ → κ → Bool) (W : World) (r : Nat) (g : κ → Option Value) : Prop := ∃ L, MapIs kv W r L ∧ ∀ k, (lookF eq k L 0).map (·.2) = g k
theorem MapTo.lt {W : World} {r : Nat} {g : κ → Option Value} (h : MapTo kv eq W r g) : r < W.heap.size := by
  obtain ⟨L, ⟨es, cl, hr, _⟩, _⟩ := h
  exact (Array.getElem?_eq_some_iff.1 hr).1
theorem MapTo.same {W W' : World} {r : Nat} {g : κ → Option Value} (h : MapTo kv eq W r g) (e : W'.heap[r]? = W.heap[r]?) : MapTo kv eq W' r g := by
  obtain ⟨L, ⟨es, cl, hr, he⟩, hg⟩ := h
  exact ⟨L, ⟨es, cl, e.trans hr, he⟩, hg⟩
theorem MapTo.keep {W W' : World} {r : Nat} {g : κ → Option Value} (h : MapTo kv eq W r g) (hk : Keeps W W') : MapTo kv eq W' r g := h.same (hk.block r h.lt)
theorem MapTo.below {W W' : World} {B r : Nat} {g : κ → Option Value} (h : MapTo kv eq W r g) (hk : Below B W W') (hr : r < B) : MapTo kv eq W' r g := h.same (hk.block r hr)
theorem MapTo.grown {W W' : World} {r : Nat} {g : κ → Option Value} {row : Option Nat} (h : MapTo kv eq W r g) (hg : W.grownBy W' row) (hne : row ≠ some r) : MapTo kv eq W' r g := h.same (hg.block r h.lt (fun e => hne e.symm))
theorem MapTo.congr {W : World} {r : Nat} {g g' : κ → Option Value} (h : MapTo kv eq W r g) (e : ∀ k, g k = g' k) : MapTo kv eq W r g' := by
  obtain ⟨L, hm, hg⟩ := h
  exact ⟨L, hm, fun k => (hg k).trans (e k)⟩
theorem MapTo.look (L : KeyLaws P K kv eq) {T E : TypeId} (hT : P.underlying T = some (.map K E)) (ok : Bool) {W : World} {r : Nat} {g : κ → Option Value} (h : MapTo kv eq W r g) (z : Value) (hz : (zeroValue E).run P W = .ok z W) (x : κ) :
    (Instr.lookup T (.map (some r)) (kv x) ok).run P W = .ok (if ok then .tuple #[(g x).getD z, .bool (g x).isSome] else (g x).getD z) W := by
  obtain ⟨l, hm, hg⟩ := h
  have hl := run_lookup_is L hT ok x W r l hm z hz
  have h1 := hg x
  have h2 : (lookF eq x l 0).isSome = (g x).isSome := by
    have := congrArg Option.isSome h1; simpa using this
  rw [h1, h2] at hl
  exact hl
theorem MapTo.put [DecidableEq κ] (L : KeyLaws P K kv eq) (he : ∀ x y, eq x y = true ↔ x = y) {T E : TypeId} (hT : P.underlying T = some (.map K E)) {W : World} {r : Nat} {g : κ → Option Value} (h : MapTo kv eq W r g) (x : κ) (v : Value) :
    ∃ W', (Instr.mapUpdate T (.map (some r)) (kv x) v).run P W = .ok () W' ∧ MapTo kv eq W' r (fun k => if k = x then some v else g k) ∧ W.grownBy W' (some r) := by
  obtain ⟨l, hm, hg⟩ := h
  obtain ⟨W', h1, h2, h3⟩ := run_update_any L hT x v W r l hm
  refine ⟨W', h1, ⟨_, h2, fun k => ?_⟩, h3⟩
  rw [look_set he]
  by_cases e : k = x
  · subst e; simp
  · simp only [if_neg e]; exact hg k
theorem MapTo.made (W : World) : MapTo kv eq (W.alloc (.map #[] 0)) W.heap.size (fun _ => none) := ⟨[], ⟨#[], 0, heap_alloc_new W _, rfl⟩, fun k => rfl⟩
end
theorem grown_only {a b c : World} {r : Nat} (h : Keeps a b) (hg : b.grownBy c (some r)) : a.grownBy c (some r) :=
  ⟨hg.os.trans h.os, hg.tape.trans h.tape, hg.output.trans h.output, Nat.le_trans h.size hg.size, fun i hi hne => (hg.block i (Nat.lt_of_lt_of_le hi h.size) hne).trans (h.block i hi)⟩
theorem grown_of_keeps {a b : World} (h : Keeps a b) (row : Option Nat) : a.grownBy b row := ⟨h.os, h.tape, h.output, h.size, fun i hi _ => h.block i hi⟩
theorem grown_keepsr {a b c : World} {r : Nat} (h : Keeps a b) (hg : b.grownBy c (some r)) (hr : a.heap.size ≤ r) : Keeps a c := grown_keeps h hg (fun k e => by injection e with e; omega)
end Go.Proofs.YthkmpegpmpdhaaaGreatDoor
