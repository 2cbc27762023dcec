import Derived.Test.YthkmpegpmpdhaaaDfA
import Derived.RangeFuncRecord
import Derived.Carry
import Derived.ChangeKeysEq
import Derived.Test.YthkmpegpmpdhaaaRows
import Derived.WalkKit
import Derived.WalkSpells
import Derived.WalkLawsBesides
import Derived.Laws.EntriesVeiled
import Derived.ProofKit
import Derived.OpenShut
import Derived.Lib.Hide
import Derived.BigQuiet
import Derived.Deep.QuietTactic
import Derived.Below
import Derived.Laws.OwnMore
import Derived.Deep.AppendLies
import Derived.Deep.Draws
import Derived.Laws.Rows
import Derived.Maps.AppendAt
import Derived.RegionTactic
import Derived.OwnWalk
import Derived.Deep.RegionHeld3
namespace Go.Proofs.Ythkmpegpmpdhaaa.Df
open Go.ChangeShapes Go.WideShapes Go.ChangeAt Go.RowKit
set_option linter.unusedSimpArgs false
set_option linter.unusedVariables false
/-- The first entry at key x. -/
def lookF {κ : Type} (eq : κ → κ → Bool) (x : κ) : List (κ × Value) → Nat → Option (Nat × Value)
  | [], _ => none
  | e :: es, i => if eq x e.1 then some (i, e.2) else lookF eq x es (i + 1)
/-- Block r is a map with just these entries, in this order. -/
def MapIs {κ : Type} (kv : κ → Value) (W : World) (r : Nat) (l : List (κ × Value)) : Prop :=
  ∃ es clock, W.heap[r]? = some (.map es clock) ∧ es.toList.map (fun e => (e.key, e.val)) = l.map fun e => (kv e.1, e.2)

/-- What the laws ask of a key's type: its '==', that it may be hashed, that it is no plain type. -/
structure KeyLaws {κ : Type} (P : Program) (K : TypeId) (kv : κ → Value) (eq : κ → κ → Bool) : Prop where
  equal : ∀ x y W, (Op.equal K (kv x) (kv y)).run P W = .ok (eq x y) W
  check : ∀ e x W, (Instr.checkKey e 10000 K (kv x)).run P W = .ok () W
  stays : ∀ x y, eq x y = true → kv x = kv y ∧ Instr.sameBits 10000 (kv x) (kv x) = true
  deep : ∃ d, P.underlying K = some d ∧ ∀ x y, Instr.sameNow d (kv x) (kv y) = none

section
variable {κ : Type} {P : Program} {K : TypeId} {kv : κ → Value} {eq : κ → κ → Bool}

theorem run_findAsking_is (L : KeyLaws P K kv eq) (x : κ) (W : World) : ∀ (es : List MapEntry) (l : List (κ × Value)) (i : Nat), es.map (fun e => (e.key, e.val)) = l.map (fun e => (kv e.1, e.2)) →
    (Instr.findAsking K (kv x) es i).run P W = .ok (lookF eq x l i) W
  | [], [], i, _ => by simp [Instr.findAsking, lookF]
  | e :: es, a :: l, i, h => by
    simp only [List.map_cons, List.cons.injEq, Prod.mk.injEq] at h
    obtain ⟨⟨h1, h2⟩, h3⟩ := h
    simp only [Instr.findAsking, Sem.run_bind, h1, L.equal, Result.andThen_ok, Sem.run_ite, lookF]
    by_cases hb : eq x a.1 = true
    · simp [hb, h2]
    · simp only [hb]
      simpa using run_findAsking_is L x W es l (i + 1) h3
  | [], a :: l, i, h => by simp at h
  | e :: es, [], i, h => by simp at h

theorem run_findKey_is (L : KeyLaws P K kv eq) (x : κ) (W : World) (es : List MapEntry) (l : List (κ × Value)) (h : es.map (fun e => (e.key, e.val)) = l.map (fun e => (kv e.1, e.2))) :
    (Instr.findKey K (kv x) es).run P W = .ok (lookF eq x l 0) W := by
  obtain ⟨d, hd, hs⟩ := L.deep
  simp only [Instr.findKey, Sem.run_bind, run_underlying hd, Result.andThen_ok]
  cases es with
  | nil =>
    cases l with
    | nil => simp [Instr.findNow, lookF]
    | cons a l => simp at h
  | cons e es =>
    cases l with
    | nil => simp at h
    | cons a l =>
      have hk : e.key = kv a.1 := by simp at h; exact h.1.1
      have : Instr.findNow d (kv x) (e :: es) 0 = none := by simp [Instr.findNow, hk, hs]
      simp only [this]
      exact run_findAsking_is L x W _ _ 0 h

theorem run_lookup_is (L : KeyLaws P K kv eq) {T E : TypeId} (hT : P.underlying T = some (.map K E)) (ok : Bool) (x : κ) (W : World) (r : Nat) (l : List (κ × Value)) (hm : MapIs kv W r l) (z : Value) (hz : (zeroValue E).run P W = .ok z W) :
    (Instr.lookup T (.map (some r)) (kv x) ok).run P W = .ok (if ok then .tuple #[((lookF eq x l 0).map (·.2)).getD z, .bool (lookF eq x l 0).isSome] else ((lookF eq x l 0).map (·.2)).getD z) W := by
  obtain ⟨es, clock, hr, he⟩ := hm
  have hget : (getObj r).run P W = .ok (.map es clock) W := by simp [getObj, Sem.run, hr]
  simp only [Instr.lookup, Sem.run_bind, run_underlying hT, Result.andThen_ok, hget, Sem.run_pure, L.check, run_findKey_is L x W es.toList l he]
  cases hl : lookF eq x l 0 with
  | none => simp [hz]
  | some p => simp


def setF {κ : Type} (eq : κ → κ → Bool) (x : κ) (v : Value) : List (κ × Value) → List (κ × Value)
  | [] => [(x, v)]
  | e :: es => if eq x e.1 then (x, v) :: es else e :: setF eq x v es
theorem look_set_none {eq : κ → κ → Bool} {x : κ} {v : Value} : ∀ {l : List (κ × Value)} {i : Nat}, lookF eq x l i = none → setF eq x v l = l ++ [(x, v)]
  | [], _, _ => rfl
  | e :: es, i, h => by
    simp only [lookF] at h
    by_cases hb : eq x e.1 = true
    · rw [if_pos hb] at h; cases h
    · rw [if_neg hb] at h
      simp only [setF, if_neg hb, List.cons_append, look_set_none h]
theorem modify_set (x : κ) (v : Value) {key : Value} : ∀ (es : List MapEntry) (l : List (κ × Value)) (i j : Nat) (old : Value), es.map (fun e => (e.key, e.val)) = l.map (fun e => (kv e.1, e.2)) → lookF eq x l j = some (i + j, old) → key = kv x →
    (es.modify i fun e => { e with key := key, val := v }).map (fun e => (e.key, e.val)) = (setF eq x v l).map (fun e => (kv e.1, e.2)) ∧ ∃ e, es[i]? = some e ∧ ∃ y, eq x y = true ∧ e.key = kv y
  | [], [], i, j, old, _, h, _ => by simp [lookF] at h
  | e :: es, a :: l, i, j, old, hm, h, hk => by
    simp only [List.map_cons, List.cons.injEq, Prod.mk.injEq] at hm
    obtain ⟨⟨h1, h2⟩, h3⟩ := hm
    simp only [lookF] at h
    by_cases hb : eq x a.1 = true
    · rw [if_pos hb] at h
      injection h with h
      injection h with h4 h5
      have hi : i = 0 := by omega
      subst hi
      simp only [setF, if_pos hb, List.modify_zero_cons, List.map_cons, h3, hk]
      exact ⟨trivial, e, rfl, a.1, hb, h1⟩
    · rw [if_neg hb] at h
      obtain ⟨i', rfl⟩ : ∃ i', i = i' + 1 := by
        refine ⟨i - 1, ?_⟩
        have : ∀ (l : List (κ × Value)) (j i : Nat) (old : Value), lookF eq x l j = some (i, old) → j ≤ i := by
          intro l
          induction l with
          | nil => intro j i old h; simp [lookF] at h
          | cons b l ih =>
            intro j i old h
            simp only [lookF] at h
            split at h
            · injection h with h; injection h with h _; omega
            · have := ih _ _ _ h; omega
        have := this _ _ _ _ h
        omega
      have ih := modify_set x v es l i' (j + 1) old h3 (by rw [h]; congr 2; omega) hk
      simp only [setF, if_neg hb, List.modify_succ_cons, List.map_cons, h1, h2, ih.1]
      refine ⟨trivial, ?_⟩
      simpa using ih.2
  | [], a :: l, _, _, _, h, _, _ => by simp at h
  | e :: es, [], _, _, _, h, _, _ => by simp at h
theorem run_update_any (L : KeyLaws P K kv eq) {T E : TypeId} (hT : P.underlying T = some (.map K E)) (x : κ) (v : Value) (W : World) (r : Nat) (l : List (κ × Value)) (hm : MapIs kv W r l) :
    ∃ W', (Instr.mapUpdate T (.map (some r)) (kv x) v).run P W = .ok () W' ∧ MapIs kv W' r (setF eq x v l) ∧ W.grownBy W' (some r) := by
  obtain ⟨es, clock, hr, he⟩ := hm
  have hget : (getObj r).run P W = .ok (.map es clock) W := by simp [getObj, Sem.run, hr]
  have hset : ∀ o, (setObj r o).run P W = .ok () (W.putObj r o) := fun o => by simp [setObj, Sem.run, hr, World.putObj]
  cases hl : lookF eq x l 0 with
  | none =>
    simp only [Instr.mapUpdate, Sem.run_bind, run_underlying hT, Result.andThen_ok, hget, L.check, run_findKey_is L x W es.toList l he, hl, hset]
    refine ⟨_, rfl, ⟨_, _, World.putObj_heap_same (Array.getElem?_eq_some_iff.1 hr).1, ?_⟩, ⟨rfl, rfl, rfl, by simp, fun k _ hk => World.putObj_heap_other (fun e => hk (by rw [e]))⟩⟩
    rw [look_set_none hl]; simp [he]
  | some p =>
    obtain ⟨i, old⟩ := p
    obtain ⟨h1, e, h2, y, h3, h4⟩ := modify_set (kv := kv) (key := kv x) x v es.toList l i 0 old he hl rfl
    obtain ⟨h5, h6⟩ := L.stays x y h3
    have hkey : ((es[i]?).map (·.key)).getD (kv x) = kv x := by
      have : es[i]? = some e := by simpa using h2
      rw [this]; simp [h4, h5]
    have hst : ∀ W, (Instr.keyThatStays (kv x) (kv x)).run P W = .ok (kv x) W := fun W => by simp [Instr.keyThatStays, h6]
    simp only [Instr.mapUpdate, Sem.run_bind, run_underlying hT, Result.andThen_ok, hget, L.check, run_findKey_is L x W es.toList l he, hl, hkey, hst, hset]
    refine ⟨_, rfl, ⟨_, _, World.putObj_heap_same (Array.getElem?_eq_some_iff.1 hr).1, ?_⟩, ⟨rfl, rfl, rfl, by simp, fun k _ hk => World.putObj_heap_other (fun e => hk (by rw [e]))⟩⟩
    rw [← h1]; simp [Array.toList_modify]
theorem look_set [DecidableEq κ] {eq : κ → κ → Bool} (h1 : ∀ x y, eq x y = true ↔ x = y) (x y : κ) (v : Value) : ∀ (l : List (κ × Value)) (i : Nat), (lookF eq y (setF eq x v l) i).map (·.2) = if y = x then some v else (lookF eq y l i).map (·.2)
  | [], i => by
    simp only [setF, lookF]
    by_cases e : y = x
    · subst e; simp [(h1 y y).2 rfl]
    · have : ¬ eq y x = true := fun h => e ((h1 y x).1 h)
      simp [this, e]
  | a :: l, i => by
    have ih := look_set h1 x y v l (i + 1)
    simp only [setF]
    by_cases hb : eq x a.1 = true
    · rw [if_pos hb]
      have hx := (h1 _ _).1 hb
      simp only [lookF]
      by_cases e : y = x
      · subst e; simp [(h1 y y).2 rfl]
      · have h2 : ¬ eq y x = true := fun h => e ((h1 y x).1 h)
        have h3 : ¬ eq y a.1 = true := by rw [← hx]; exact h2
        simp [h2, h3, e]
    · rw [if_neg hb]
      simp only [lookF]
      by_cases e2 : eq y a.1 = true
      · have hy := (h1 _ _).1 e2
        have hne : y ≠ x := fun e => hb (by rw [← e, hy]; exact (h1 _ _).2 rfl)
        simp [e2, hne]
      · simp only [if_neg e2]; exact ih
end

abbrev Ky := Int × Int
def kyV (k : Ky) : Value := .agg #[.int .i64 k.1, .int .i64 k.2]
def kyEq (a b : Ky) : Bool := a.1 == b.1 && a.2 == b.2
theorem kyEq_iff (a b : Ky) : kyEq a b = true ↔ a = b := by
  obtain ⟨a1, a2⟩ := a
  obtain ⟨b1, b2⟩ := b
  simp [kyEq]
theorem run_eq_ky (a b c d : Int) (w : World) : (Op.equalIn 10000 129 (.agg #[.int .i64 a, .int .i64 b]) (.agg #[.int .i64 c, .int .i64 d])).run Try.prog w = .ok (a == c && b == d) w := by
  have u3 := Try.underlying3
  have a3 := Try.isAgg3
  have z3 := Try.sizeOf3
  obtain ⟨i0, hi0, hz0, hz1, hz2⟩ := info3
  have hc : Try.prog.cellsOf 3 = 1 := by kernel_rfl
  rw [show (10000 : Nat) = 9999 + 1 from rfl, run_equalIn_array w 9999 _ _ Try.underlying129 hi0, hc]
  simp only [List.range_succ, List.range_zero, List.nil_append, List.cons_append, Op.eqItems]
  go_simp
  by_cases h1 : a = c <;> by_cases h2 : b = d <;> simp [h1, h2]
set_option maxRecDepth 100000 in
theorem kyKeys : KeyLaws Try.prog 129 kyV kyEq where
  equal := fun x y W => run_eq_ky _ _ _ _ W
  check := fun e x W => by cases e <;> kernel_rfl
  stays := fun x y h => by
    have := (kyEq_iff x y).1 h
    subst this
    exact ⟨rfl, by simp [kyV, Instr.sameBits]⟩
  deep := ⟨_, Try.underlying129, fun x y => rfl⟩
/-- Block r is a map that holds what g says. -/
def MapTo (W : World) (r : Nat) (g : Ky → Option Int) : Prop := ∃ L, MapIs kyV W r L ∧ ∀ k, (lookF kyEq k L 0).map (·.2) = (g k).map (Value.int .i64)
theorem MapTo.lt {W : World} {r : Nat} {g : Ky → Option Int} (h : MapTo W r g) : r < W.heap.size := by
  obtain ⟨L, ⟨es, cl, hr, _⟩, _⟩ := h
  exact (Array.getElem?_eq_some_iff.1 hr).1
theorem MapTo.same {W W' : World} {r : Nat} {g : Ky → Option Int} (h : MapTo W r g) (e : W'.heap[r]? = W.heap[r]?) : MapTo W' r g := by
  obtain ⟨L, ⟨es, cl, hr, he⟩, hg⟩ := h
  exact ⟨L, ⟨es, cl, e.trans hr, he⟩, hg⟩
theorem MapTo.keep {W W' : World} {r : Nat} {g : Ky → Option Int} (h : MapTo W r g) (hk : Keeps W W') : MapTo W' r g := h.same (hk.block r h.lt)
theorem MapTo.below {W W' : World} {B r : Nat} {g : Ky → Option Int} (h : MapTo W r g) (hk : Below B W W') (hr : r < B) : MapTo W' r g := h.same (hk.block r hr)
theorem MapTo.look {W : World} {r : Nat} {g : Ky → Option Int} (h : MapTo W r g) (a b : Int) :
    (Instr.lookup 107 (.map (some r)) (.agg #[.int .i64 a, .int .i64 b]) true).run Try.prog W = .ok (.tuple #[.int .i64 ((g (a, b)).getD 0), .bool (g (a, b)).isSome]) W := by
  obtain ⟨L, hm, hg⟩ := h
  have hl := run_lookup_is kyKeys Try.underlying107 true (a, b) W r L hm (.int .i64 0) (by kernel_rfl)
  have h1 := hg (a, b)
  have h2 : (lookF kyEq (a, b) L 0).isSome = (g (a, b)).isSome := by
    have := congrArg Option.isSome h1; simpa using this
  rw [h1, h2] at hl
  simp only [if_true, kyV] at hl
  rw [hl]
  cases g (a, b) <;> rfl
theorem MapTo.put {W : World} {r : Nat} {g : Ky → Option Int} (h : MapTo W r g) (a b m : Int) :
    ∃ W', (Instr.mapUpdate 107 (.map (some r)) (.agg #[.int .i64 a, .int .i64 b]) (.int .i64 m)).run Try.prog W = .ok () W' ∧ MapTo W' r (fun k => if k = (a, b) then some m else g k) ∧ W.grownBy W' (some r) := by
  obtain ⟨L, hm, hg⟩ := h
  obtain ⟨W', h1, h2, h3⟩ := run_update_any kyKeys Try.underlying107 (a, b) (.int .i64 m) W r L hm
  refine ⟨W', h1, ⟨_, h2, fun k => ?_⟩, h3⟩
  rw [look_set kyEq_iff]
  by_cases e : k = (a, b)
  · subst e; simp
  · simp only [if_neg e]; exact hg k
theorem MapTo.made (W : World) : MapTo (W.alloc (.map #[] 0)) W.heap.size (fun _ => none) := ⟨[], ⟨#[], 0, heap_alloc_new W _, rfl⟩, fun k => rfl⟩
/-- One bound more. -/
def strF (g : Ky → Option Int) (b : Bd) : Ky → Option Int := fun k => if k = (b.f, b.t) then (match g k with | some v => if b.m < v then some b.m else some v | none => some b.m) else g k
theorem strF_put {g : Ky → Option Int} {b : Bd} (h : g (b.f, b.t) = none ∨ ∃ v, g (b.f, b.t) = some v ∧ b.m < v) : (fun k => if k = (b.f, b.t) then some b.m else g k) = strF g b := by
  funext k
  unfold strF
  by_cases e : k = (b.f, b.t)
  · rw [if_pos e, if_pos e, e]
    rcases h with h | ⟨v, h, hlt⟩
    · rw [h]
    · rw [h]; simp [hlt]
  · rw [if_neg e, if_neg e]
theorem strF_same {g : Ky → Option Int} {b : Bd} {v : Int} (h : g (b.f, b.t) = some v) (hle : v ≤ b.m) : g = strF g b := by
  funext k
  unfold strF
  by_cases e : k = (b.f, b.t)
  · rw [if_pos e, e, h]; simp; omega
  · rw [if_neg e]
theorem grown_only {a b c : World} {r : Nat} (h : Keeps a b) (hg : b.grownBy c (some r)) : a.grownBy c (some r) :=
  ⟨hg.os.trans h.os, hg.tape.trans h.tape, hg.output.trans h.output, Nat.le_trans h.size hg.size, fun i hi hne => (hg.block i (Nat.lt_of_lt_of_le hi h.size) hne).trans (h.block i hi)⟩
theorem grown_of_keeps {a b : World} (h : Keeps a b) (row : Option Nat) : a.grownBy b row := ⟨h.os, h.tape, h.output, h.size, fun i hi _ => h.block i hi⟩
/-- What strengthen leaves. -/
def StrPost (r : Nat) (g : Ky → Option Int) (w : World) (e : Ending) (w' : World) : Prop := e = .returned (.tuple #[]) ∧ MapTo w' r g ∧ w.grownBy w' (some r)
set_option maxHeartbeats 2000000 in
theorem strengthen_any (r : Nat) (g : Ky → Option Int) (b : Bd) (w : World) (h : MapTo w r g) : Calls Try.prog 48 #[.map (some r), .agg #[.int .i64 b.f, .int .i64 b.t, .int .i64 b.m]] w (StrPost r (strF g b) w) := by
  obtain ⟨f, t, m⟩ := b
  simp only
  have k1 : Keeps w ((w.alloc (.cells #[.int .i64 f, .int .i64 t, .int .i64 m] 103)).alloc (.cells #[.int .i64 f, .int .i64 t] 129)) := ((Keeps.refl w).alloc _).alloc _
  have b0 : Blk ((w.alloc (.cells #[Value.int .i64 f, .int .i64 t, .int .i64 m] 103)).alloc (.cells #[Value.int .i64 f, .int .i64 t] 129)) w.heap.size 103 #[.int .i64 f, .int .i64 t, .int .i64 m] := (Blk.new w _ _).alloc _
  have hk := h.keep k1
  have hl := hk.look f t
  have HS := Lib.hid h
  cases hg : g (f, t) with
  | none =>
    rw [hg] at hl
    obtain ⟨W', hp, hm, hgr⟩ := hk.put f t m
    have HM := Lib.hid hm; have HG := Lib.hid (grown_only k1 hgr)
    have HF := Lib.hid (strF_put (b := ⟨f, t, m⟩) (.inl hg))
    clear hm hgr hk h hg
    go_enter Try.func48, Try.ntmps48
    go_wp2_with fail
    go_end0
    exact ⟨rfl, by rw [← HF.out]; exact HM.out, HG.out⟩
  | some v =>
    rw [hg] at hl
    by_cases hlt : m < v
    · obtain ⟨W', hp, hm, hgr⟩ := hk.put f t m
      have HM := Lib.hid hm; have HG := Lib.hid (grown_only k1 hgr)
      have HF := Lib.hid (strF_put (b := ⟨f, t, m⟩) (.inr ⟨v, hg, hlt⟩))
      have hlt' : decide (m < v) = true := by simpa using hlt
      clear hm hgr hk h hg
      go_enter Try.func48, Try.ntmps48
      go_wp2_with fail
      go_end0
      exact ⟨rfl, by rw [← HF.out]; exact HM.out, HG.out⟩
    · have HF := Lib.hid (strF_same (b := ⟨f, t, m⟩) hg (by simp; omega))
      have HK := Lib.hid hk; have HG := Lib.hid (grown_of_keeps k1 (some r))
      have hlt' : decide (m < v) = false := by simpa using hlt
      clear hk h hg
      go_enter Try.func48, Try.ntmps48
      go_wp2_with fail
      go_end0
      exact ⟨rfl, by rw [← HF.out]; exact HK.out, HG.out⟩
def bestF (l : List Bd) : Ky → Option Int := l.foldl strF (fun _ => none)
theorem best_take {l : List Bd} {k : Nat} {b : Bd} (h : l[k]? = some b) : bestF (l.take (k + 1)) = strF (bestF (l.take k)) b := by
  unfold bestF; rw [List.take_add_one, h]; simp [List.foldl_append]
/-- What collect leaves. -/
def ColPost (g : Ky → Option Int) (w : World) (e : Ending) (w' : World) : Prop := ∃ r, e = .returned (.map (some r)) ∧ w.heap.size ≤ r ∧ MapTo w' r g ∧ Keeps w w'
theorem col_post {r : Nat} {g : Ky → Option Int} {w w' : World} (h1 : w.heap.size ≤ r) (h2 : MapTo w' r g) (h3 : Keeps w w') : ColPost g w (.returned (.map (some r))) w' := ⟨r, rfl, h1, h2, h3⟩
theorem grown_keepsr {a b c : World} {r : Nat} (h : Keeps a b) (hg : b.grownBy c (some r)) (hr : a.heap.size ≤ r) : Keeps a c := grown_keeps h hg (fun k e => by injection e with e; omega)
set_option maxHeartbeats 2000000 in
theorem collect_any (l : List Bd) (A : Option Addr) (n c : Nat) (w : World) (hl : Bnds w w.heap.size A l) (hn : l.length ≤ 1000000) (hln : n = l.length) : Calls Try.prog 46 #[.slice A n c] w (ColPost (bestF l) w) := by
  rw [← hln] at hn
  have HN := Lib.hid hln; clear hln
  have hm0 := MapTo.made w
  have hk0 : Keeps w (w.alloc (.map #[] 0)) := (Keeps.refl w).alloc _
  have hmm := @run_makeMap Try.prog
  go_enter Try.func46, Try.ntmps46
  go_wp2_with fail
  clear hmm
  go_loopw [9] (fun i wr => ∃ k : Nat, k ≤ n ∧ i = .int .i64 (k : Int) ∧ MapTo wr w.heap.size (bestF (l.take k)) ∧ Keeps w wr) (fun i _ => n - (intOf i).toNat)
  case atStart => exact ⟨0, by omega, rfl, hm0, hk0⟩
  case round =>
    clear hm0 hk0
    obtain ⟨k, hk, rfl, hM, hK⟩ := hrel
    have HM := Lib.hid hM
    by_cases hkn : k < n
    · have hok : l[k]? = some (l[k]'(by rw [← HN.out]; exact hkn)) := List.getElem?_eq_getElem _
      generalize l[k]'(by rw [← HN.out]; exact hkn) = b at hok
      obtain ⟨bb, off, rfl, hb, c0, c1, c2⟩ := (hl.keep hK) k b hok
      have HB := Lib.hid (best_take hok)
      have ka : Keeps wr (wr.alloc (.cells #[.int .i64 b.f, .int .i64 b.t, .int .i64 b.m] 103)) := (Keeps.refl wr).alloc _
      have HMA := Lib.hid (hM.keep ka)
      have HKA := Lib.hid (hK.trans ka)
      have hki : (k : Int) < (n : Int) := by omega
      have hk0 : (0 : Int) ≤ (k : Int) := by omega
      have hkw : IntKind.i64.wrap ((k : Int) + 1) = (k : Int) + 1 := IntWalk.i64_in _ (by omega)
      clear hok hM hK ka
      go_wp2_with (go_at_call 48; (with_reducible refine (strengthen_any w.heap.size _ b _ HMA.out).mono ?_); rintro e w2 ⟨rfl, hm2, hg2⟩)
      have HM2 := Lib.hid hm2; have HK2 := Lib.hid (grown_keepsr HKA.out hg2 (Nat.le_refl _))
      clear hm2 hg2
      go_roundw
      case rel => exact ⟨k + 1, by omega, by go_num, by rw [HB.out]; exact HM2.out, HK2.out⟩
      case measure => simp [intOf]; omega
    · have E := Lib.hid (take_all (l := l) (k := k) (by rw [← HN.out]; omega))
      have HP := Lib.hid (col_post (Nat.le_refl _) HM.out hK)
      rw [E.out] at HP
      go_wp2_with fail
      go_ret
      exact HP.out
def inR (lo hi x : Int) : Bool := decide (lo ≤ x) && decide (x ≤ hi)
def allIn (lo hi : Int) (l : List Int) : Bool := l.all (inR lo hi)
theorem allIn_bad {lo hi : Int} {l : List Int} {k : Nat} {x : Int} (hx : l[k]? = some x) (h : inR lo hi x = false) : allIn lo hi l = false := by
  rw [allIn, List.all_eq_false]; exact ⟨x, List.mem_of_getElem? hx, by simp [h]⟩
theorem allIn_take {lo hi : Int} {l : List Int} {k : Nat} {x : Int} (h : (l.take k).all (inR lo hi) = true) (hx : l[k]? = some x) (hb : inR lo hi x = true) : (l.take (k + 1)).all (inR lo hi) = true := by
  rw [List.take_add_one, hx, List.all_append, h]; simp [hb]
theorem allIn_all {lo hi : Int} {l : List Int} {k : Nat} (h : (l.take k).all (inR lo hi) = true) (hk : l.length ≤ k) : allIn lo hi l = true := by
  rw [List.take_of_length_le hk] at h; exact h
set_option maxHeartbeats 1000000 in
theorem within_any (lo hi : Int) (l : List Int) (A : Option Addr) (n c : Nat) (w : World) (hl : Nums .i64 w w.heap.size A l) (hn : l.length ≤ 9223372036854775807) (hln : n = l.length) (r : Bool) (hr : allIn lo hi l = r) :
    Calls Try.prog 47 #[.int .i64 lo, .int .i64 hi, .slice A n c] w (BoolPost r w) := by
  have HR := Lib.hid hr; clear hr
  rw [← hln] at hn
  have HN := Lib.hid hln; clear hln
  go_enter Try.func47, Try.ntmps47
  go_wp2
  go_loopw [8, 11] (fun _ i wr => ∃ k : Nat, k ≤ n ∧ i = .int .i64 (k : Int) ∧ Keeps w wr ∧ (l.take k).all (inR lo hi) = true) (fun _ i _ => n - (intOf i).toNat)
  case atStart => exact ⟨0, by omega, rfl, Keeps.refl _, by simp⟩
  case round =>
    obtain ⟨k, hk, rfl, hK, hf⟩ := hrel
    have HF := Lib.hid hf; clear hf
    by_cases hkn : k < n
    · have hok : l[k]? = some (l[k]'(by rw [← HN.out]; exact hkn)) := List.getElem?_eq_getElem _
      generalize l[k]'(by rw [← HN.out]; exact hkn) = x at hok
      obtain ⟨b, off, rfl, hb, c0⟩ := (hl.keep hK) k x hok
      have HO := Lib.hid hok; clear hok
      have hki : (k : Int) < (n : Int) := by omega
      have hk0 : (0 : Int) ≤ (k : Int) := by omega
      have hkw : IntKind.i64.wrap ((k : Int) + 1) = (k : Int) + 1 := IntWalk.i64_in _ (by omega)
      by_cases h0 : x < lo
      · have E := Lib.hid (allIn_bad HO.out (show inR lo hi x = false by simp [inR]; omega))
        have h0' : decide (x < lo) = true := by simpa using h0
        go_wp2
        go_ret
        exact bool_post (HR.out.symm.trans E.out) hK
      · have h0' : decide (x < lo) = false := by simpa using h0
        by_cases h1 : hi < x
        · have E := Lib.hid (allIn_bad HO.out (show inR lo hi x = false by simp [inR]; omega))
          have h1' : decide (hi < x) = true := by simpa using h1
          go_wp2
          go_ret
          exact bool_post (HR.out.symm.trans E.out) hK
        · have h1' : decide (hi < x) = false := by simpa using h1
          have HT := Lib.hid (allIn_take HF.out HO.out (show inR lo hi x = true by simp [inR]; omega))
          go_wp2
          go_roundw
          case rel => exact ⟨k + 1, by omega, by go_num, hK, HT.out⟩
          case measure => simp [intOf]; omega
    · have E := Lib.hid (allIn_all HF.out (by rw [← HN.out]; omega))
      go_wp2
      go_ret
      exact bool_post (HR.out.symm.trans E.out) hK
end Go.Proofs.Ythkmpegpmpdhaaa.Df
