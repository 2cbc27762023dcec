/- Part of the proof of TopOwnItem. Conditions: as stated in each theorem. -/
import Derived.Test.YthkmpegpmpdhaaaGreatDoorZW
import Derived.Test.YthkmpegpmpdhaaaGreatDoorProg
import Derived.WalkMore
import Derived.LoopN
import Derived.Lib.ConvBytes
import Derived.Maps.OwnIn
import Derived.Deep.LoopGhost
import Derived.RangeFuncNested
import Derived.RangeFuncCalls
import Derived.RangeFuncLeaves
import Derived.RangeFuncWrites
import Derived.Shelf.Abstract
import Derived.Shelf.RegionOpen
import Derived.OwnWalkIn
import Derived.TacticsInMore
import Derived.LoopNIn
import Derived.LoopIn
import Derived.RangeFuncBound
import Derived.WalkKit
import Derived.WalkSpells
import Derived.WalkLawsBesides
import Derived.Laws.EntriesVeiled
import Derived.ProofKit
import Derived.OpenShut
import Derived.Lib.Hide
import Derived.BigQuiet
import Derived.Deep.QuietTactic
import Derived.Deep.CutRange
import Derived.StillTailTactics
import Derived.Lib.SliceRun
import Derived.RangeFuncRecord
import Derived.Carry
import Derived.ChangeKeysEq
import Derived.Below
import Derived.Laws.OwnMore
import Derived.Deep.AppendLies
import Derived.Deep.Draws
import Derived.Laws.Rows
import Derived.Maps.AppendAt
import Derived.RegionTactic
import Derived.OwnWalk
import Derived.Deep.RegionHeld3
namespace Go.Proofs.YthkmpegpmpdhaaaGreatDoor
open Go.Shelf Go.ChangeShapes Go.WideShapes Go.ChangeAt Go.RowKit
set_option linter.unusedSimpArgs false
set_option linter.unusedVariables false
section
open Go.RowKit
variable {P : Program} {ops : Array Oper} {Q : Exit → Act → World → Prop} {l m : Nat}
/-- Op j waits for op i. -/
def edgeB (ops : Array Oper) (j i : Nat) : Bool := match ops[j]? with
  | some o => o.after.any fun e => Region.binds .any e && e.on == i
  | none => false
/-- Every op of the path waits for the one before. -/
def pathB (ops : Array Oper) : List Nat → Bool
  | p :: q :: r => edgeB ops q p && pathB ops (q :: r)
  | _ => true
def listedAt (L : Array Bool) (j : Nat) : Prop := L.getD j true = true
/-- What is listed has all that it waits for listed. -/
def ClosedL (ops : Array Oper) (L : Array Bool) : Prop := ∀ j i, listedAt L j → edgeB ops j i = true → L.getD i false = true
theorem getD_true {L : Array Bool} {i : Nat} (h : L.getD i false = true) : listedAt L i := by
  unfold listedAt
  rw [Array.getD_eq_getD_getElem?] at h ⊢
  cases hi : L[i]? with
  | none => rfl
  | some b => rw [hi] at h; exact h
theorem path_listed {L : Array Bool} (hc : ClosedL ops L) : ∀ (p : List Nat) (i : Nat), p.head? = some i → pathB ops p = true → ∀ e, p.getLast? = some e → listedAt L e → listedAt L i
  | [], i, h, _, e, _, _ => by cases h
  | [x], i, h, _, e, h2, h3 => by
    simp at h h2
    rw [← h, h2]; exact h3
  | x :: y :: r, i, h, hp, e, h2, h3 => by
    simp only [List.head?_cons, Option.some.injEq] at h
    subst h
    simp only [pathB, Bool.and_eq_true] at hp
    have := path_listed hc (y :: r) y rfl hp.2 e (by simpa using h2) h3
    exact getD_true (hc y x this hp.1)
theorem path_from {L : Array Bool} (hc : ClosedL ops L) {i : Nat} (hd : ∀ j, edgeB ops i j = true → L.getD j false = true) : ∀ (p : List Nat) (e : Nat), p.head? = some e → pathB ops (p ++ [i]) = true → listedAt L e
  | [], e, h, _ => by cases h
  | [x], e, h, hp => by
    simp only [List.head?_cons, Option.some.injEq] at h
    subst h
    simp only [List.cons_append, List.nil_append, pathB, Bool.and_eq_true] at hp
    exact getD_true (hd x hp.1)
  | x :: y :: r, e, h, hp => by
    simp only [List.head?_cons, Option.some.injEq] at h
    subst h
    simp only [List.cons_append, pathB, Bool.and_eq_true] at hp
    have := path_from hc hd (y :: r) y rfl (by simpa using hp.2)
    exact getD_true (hc y x this hp.1)
/-- The frame agrees with the last one at every slot that no op that is still to come writes. -/
structure RelL (ops : Array Oper) (L : Array Bool) (b a : Act) : Prop where
  defers : a.defers = b.defers
  size : a.tmps.size = b.tmps.size
  at_ : ∀ t, (∀ j o, ops[j]? = some o → o.dst = some t → listedAt L j) → a.tmps.getD t undef = b.tmps.getD t undef
theorem getD_set (L : Array Bool) (i j : Nat) (d : Bool) : (L.setIfInBounds i true).getD j d = if i = j ∧ j < L.size then true else L.getD j d := by
  rw [Array.getD_eq_getD_getElem?, Array.getD_eq_getD_getElem?, Array.getElem?_setIfInBounds]
  by_cases e : i = j
  · subst e
    by_cases h : i < L.size
    · simp [h]
    · simp [h]
  · simp [e]
theorem listed_set {L : Array Bool} {i j : Nat} (h : listedAt L j) : listedAt (L.setIfInBounds i true) j := by
  unfold listedAt at *
  rw [getD_set]
  split
  · rfl
  · exact h
theorem listed_self {L : Array Bool} {i : Nat} : listedAt (L.setIfInBounds i true) i := by
  unfold listedAt
  rw [getD_set]
  split
  · rfl
  · rename_i h
    have : ¬ i < L.size := fun h2 => h ⟨rfl, h2⟩
    rw [Array.getD_eq_getD_getElem?, Array.getElem?_eq_none (by omega)]
    rfl
theorem listed_ne {L : Array Bool} {i j : Nat} (hne : i ≠ j) (h : listedAt (L.setIfInBounds i true) j) : listedAt L j := by
  unfold listedAt at *
  rw [getD_set, if_neg (fun h2 => hne h2.1)] at h
  exact h
theorem getD_put (a : Act) (d t : Nat) (v : Value) : (a.put (some d) v).tmps.getD t undef = if t = d ∧ d < a.tmps.size then v else a.tmps.getD t undef := by
  unfold Act.put
  simp only
  rw [Array.getD_eq_getD_getElem?, Array.getD_eq_getD_getElem?, Array.getElem?_setIfInBounds]
  by_cases e : d = t
  · subst e
    by_cases h : d < a.tmps.size
    · simp [h]
    · simp [h]
  · rw [if_neg e, if_neg (fun h => e h.1.symm)]
theorem getD_out {a : Array Value} {d : Nat} (h : ¬ d < a.size) : a.getD d undef = undef := by
  rw [Array.getD_eq_getD_getElem?, Array.getElem?_eq_none (by omega)]
  rfl
/-- A slot is written with what it holds in the last frame. -/
theorem RelL.pure {L : Array Bool} {b a : Act} (h : RelL ops L b a) {i : Nat} {o : Oper} (ho : ops[i]? = some o) {d : Nat} (hd : o.dst = some d) {v : Value} (hv : b.tmps.getD d undef = v) : RelL ops (L.setIfInBounds i true) b (a.put o.dst v) := by
  rw [hd]
  refine ⟨h.defers, by simpa [Act.put] using h.size, fun t ht => ?_⟩
  rw [getD_put]
  split
  · rename_i e
    rw [e.1, hv]
  · rename_i e
    by_cases e2 : t = d
    · have hs : ¬ d < a.tmps.size := fun h2 => e ⟨e2, h2⟩
      have hs2 : ¬ d < b.tmps.size := by rw [← h.size]; exact hs
      rw [e2]
      rw [getD_out hs, getD_out hs2]
    · exact h.at_ t fun j o' hj hd' => by
        refine listed_ne ?_ (ht j o' hj hd')
        intro e3
        subst e3
        rw [ho] at hj
        cases hj
        rw [hd] at hd'
        exact e2 (Option.some.inj hd').symm
/-- An effect's result is written in both. -/
theorem RelL.eff {L : Array Bool} {b a : Act} (h : RelL ops L b a) {i : Nat} {o : Oper} (ho : ops[i]? = some o) (v : Value) : RelL ops (L.setIfInBounds i true) (b.put o.dst v) (a.put o.dst v) := by
  cases hd : o.dst with
  | none =>
    refine ⟨h.defers, h.size, fun t ht => h.at_ t fun j o' hj hd' => ?_⟩
    refine listed_ne ?_ (ht j o' hj hd')
    intro e3
    subst e3
    rw [ho] at hj; cases hj; rw [hd] at hd'; cases hd'
  | some d =>
    refine ⟨h.defers, by simpa [Act.put] using h.size, fun t ht => ?_⟩
    rw [getD_put, getD_put, h.size]
    split
    · rfl
    · rename_i e
      by_cases e2 : t = d
      · have hs2 : ¬ d < b.tmps.size := fun h2 => e ⟨e2, h2⟩
        have hs : ¬ d < a.tmps.size := by rw [h.size]; exact hs2
        rw [e2]
        rw [getD_out hs, getD_out hs2]
      · exact h.at_ t fun j o' hj hd' => by
          refine listed_ne ?_ (ht j o' hj hd')
          intro e3
          subst e3
          rw [ho] at hj
          cases hj
          rw [hd] at hd'
          exact e2 (Option.some.inj hd').symm
theorem RelL.eq {L : Array Bool} {b a : Act} (h : RelL ops L b a) (hall : ∀ j, j < ops.size → listedAt L j) : a = b := by
  have ht : a.tmps = b.tmps := by
    refine Array.ext h.size fun t h1 h2 => ?_
    have := h.at_ t fun j o hj _ => hall j (Array.getElem?_eq_some_iff.1 hj).1
    rw [Array.getD_eq_getD_getElem?, Array.getD_eq_getD_getElem?, Array.getElem?_eq_getElem h1, Array.getElem?_eq_getElem h2] at this
    exact this
  have hd := h.defers
  cases a; cases b
  simp only at ht hd
  subst ht; subst hd
  rfl
/-- What an op reads is what it reads in the last frame. -/
theorem RelL.eval {L : Array Bool} {b a : Act} (h : RelL ops L b a) {o : Oper} (hx : ∀ x ∈ o.op.operands, ∀ t, x = .tmp t → ∀ j o', ops[j]? = some o' → o'.dst = some t → listedAt L j) : ∀ x ∈ o.op.operands, a.eval x = b.eval x := by
  intro x hxm
  cases x with
  | tmp t => exact h.at_ t (hx _ hxm t rfl)
  | const v => rfl
  | global g => rfl
  | func f => rfl
end
section
open Go.RowKit
variable {P : Program} {ops : Array Oper} {Q : Exit → Act → World → Prop} {l m : Nat}
def UpV (P : Program) (m : Nat) (K : Value → World → Prop) : Result Next → Prop
  | .ok (.value v) w' => K v w'
  | .ok .skip w' => K undef w'
  | .ok (.enter f args) w' => CallsIn Fence.wide (m - 1) P f args w' fun e w'' => ∃ v, e = .returned v ∧ K v w''
  | _ => False
def okOp (o : Oper) : Bool := (match o.op with
  | .defer _ => false
  | .select _ _ => false
  | _ => true) && o.guard.isNone
def tmpsOf (o : Oper) : List Nat := o.op.operands.toList.filterMap fun x => match x with
  | .tmp t => some t
  | _ => none
def rdB (ops : Array Oper) (j : Nat) (o : Oper) : Bool := (tmpsOf o).all fun t => (List.range ops.size).all fun i => match ops[i]? with
  | some o' => !(o'.dst == some t) || edgeB ops j i
  | none => true
def backB (j : Nat) (o : Oper) : Bool := o.after.all fun e => !Region.binds .any e || decide (e.on < j)
def opsB (ops : Array Oper) : Bool := (List.range ops.size).all fun j => match ops[j]? with
  | some o => okOp o && (rdB ops j o && backB j o)
  | none => false
def effB (ops : Array Oper) : List Nat → Bool
  | e1 :: e2 :: r => decide (e1 < e2) && (edgeB ops e2 e1 && effB ops (e2 :: r))
  | _ => true
def puB (ops : Array Oper) (E : List Nat) (p : Nat × Nat × List Nat × Nat × List Nat) : Bool := !E.contains p.1 && (p.2.2.1.head? == some p.1 && (pathB ops p.2.2.1 && ((p.2.1 == E.length || (match E[p.2.1]? with
  | some e => p.2.2.1.getLast? == some e
  | none => false)) && (p.2.2.2.1 == 0 || (match E[p.2.2.2.1 - 1]? with
  | some e => p.2.2.2.2.head? == some e && pathB ops (p.2.2.2.2 ++ [p.1])
  | none => false)))))
def allB (ops : Array Oper) (E ix : List Nat) : Bool := (List.range ops.size).all fun j => E.contains j || ix.contains j
theorem okOp_spec {o : Oper} (h : okOp o = true) : (∀ c, o.op ≠ .defer c) ∧ (∀ cs b, o.op ≠ .select cs b) ∧ o.guard = none := by
  unfold okOp at h
  simp only [Bool.and_eq_true, Option.isNone_iff_eq_none] at h
  refine ⟨fun c e => ?_, fun cs b e => ?_, h.2⟩
  · rw [e] at h; exact absurd h.1 (by simp)
  · rw [e] at h; exact absurd h.1 (by simp)
theorem opsB_at (h : opsB ops = true) {j : Nat} {o : Oper} (hj : ops[j]? = some o) : okOp o = true ∧ rdB ops j o = true ∧ backB j o = true := by
  unfold opsB at h
  have := List.all_eq_true.1 h j (List.mem_range.2 (Array.getElem?_eq_some_iff.1 hj).1)
  rw [hj] at this
  simpa only [Bool.and_eq_true] using this
theorem rdB_spec {j : Nat} {o : Oper} (h : rdB ops j o = true) {t : Nat} (hx : Operand.tmp t ∈ o.op.operands) {i : Nat} {o' : Oper} (hi : ops[i]? = some o') (hd : o'.dst = some t) : edgeB ops j i = true := by
  unfold rdB at h
  have h1 := List.all_eq_true.1 h t (List.mem_filterMap.2 ⟨.tmp t, by simpa using hx, rfl⟩)
  have h2 := List.all_eq_true.1 h1 i (List.mem_range.2 (Array.getElem?_eq_some_iff.1 hi).1)
  rw [hi] at h2
  simp only [hd, BEq.rfl, Bool.not_true, Bool.false_or] at h2
  exact h2
theorem effB_lt : ∀ {E : List Nat}, effB ops E = true → ∀ {j k : Nat} {a b : Nat}, j < k → E[j]? = some a → E[k]? = some b → a < b
  | [], _, j, k, a, b, _, h, _ => by simp at h
  | [x], _, j, k, a, b, hjk, _, h => by
    have : k = 0 := by
      have := (List.getElem?_eq_some_iff.1 h).1
      simp at this; exact this
    omega
  | x :: y :: r, he, j, k, a, b, hjk, h1, h2 => by
    simp only [effB, Bool.and_eq_true, decide_eq_true_eq] at he
    cases k with
    | zero => omega
    | succ k =>
      rw [List.getElem?_cons_succ] at h2
      cases j with
      | zero =>
        simp only [List.getElem?_cons_zero, Option.some.injEq] at h1
        subst h1
        cases k with
        | zero => simp only [List.getElem?_cons_zero, Option.some.injEq] at h2; omega
        | succ k => have := effB_lt he.2.2 (j := 0) (k := k + 1) (by omega) rfl h2; omega
      | succ j =>
        rw [List.getElem?_cons_succ] at h1
        exact effB_lt he.2.2 (by omega) h1 h2
theorem effB_edge : ∀ {E : List Nat}, effB ops E = true → ∀ {j : Nat} {a b : Nat}, E[j]? = some a → E[j + 1]? = some b → edgeB ops b a = true
  | [], _, j, a, b, h, _ => by simp at h
  | [x], _, j, a, b, _, h => by
    have := (List.getElem?_eq_some_iff.1 h).1
    simp at this
  | x :: y :: r, he, j, a, b, h1, h2 => by
    simp only [effB, Bool.and_eq_true, decide_eq_true_eq] at he
    cases j with
    | zero =>
      simp only [List.getElem?_cons_zero, Option.some.injEq, Nat.zero_add, List.getElem?_cons_succ] at h1 h2
      subst h1; subst h2
      exact he.2.1
    | succ j =>
      rw [List.getElem?_cons_succ] at h1 h2
      exact effB_edge he.2.2 h1 h2
/-- How many ops are still to come. -/
def leftN (ops : Array Oper) (L : Array Bool) : Nat := ((List.range ops.size).filter fun j => !L.getD j true).length
theorem leftN_zero {L : Array Bool} (h : leftN ops L = 0) : ∀ j, j < ops.size → listedAt L j := by
  intro j hj
  unfold leftN at h
  have h1 := List.length_eq_zero_iff.1 h
  have : ¬ (!L.getD j true) = true := fun h2 => by
    have h3 : j ∈ (List.range ops.size).filter fun j => !L.getD j true := List.mem_filter.2 ⟨List.mem_range.2 hj, h2⟩
    rw [h1] at h3; cases h3
  unfold listedAt
  simpa using this
theorem filter_len {p q : Nat → Bool} (hm : ∀ j, q j = true → p j = true) : ∀ ys : List Nat, (ys.filter q).length ≤ (ys.filter p).length
  | [] => by simp
  | y :: ys => by
    have ih := filter_len hm ys
    rw [List.filter_cons, List.filter_cons]
    by_cases hq : q y = true
    · rw [if_pos hq, if_pos (hm y hq), List.length_cons, List.length_cons]; omega
    · rw [if_neg hq]
      by_cases hp : p y = true
      · rw [if_pos hp, List.length_cons]; omega
      · rw [if_neg hp]; exact ih
theorem filter_drop {p q : Nat → Bool} {i : Nat} : ∀ (xs : List Nat), (∀ j, q j = true → p j = true) → q i = false → p i = true → i ∈ xs → (xs.filter q).length < (xs.filter p).length
  | [], _, _, _, h => by cases h
  | x :: xs, hm, hq, hp, h => by
    have hle := filter_len hm xs
    rw [List.filter_cons, List.filter_cons]
    by_cases e : x = i
    · subst e
      rw [if_pos hp, if_neg (by rw [hq]; simp), List.length_cons]; omega
    · have hi : i ∈ xs := by
        rcases List.mem_cons.1 h with h | h
        · exact absurd h.symm e
        · exact h
      have ih := filter_drop xs hm hq hp hi
      by_cases hqx : q x = true
      · rw [if_pos hqx, if_pos (hm x hqx), List.length_cons, List.length_cons]; omega
      · rw [if_neg hqx]
        by_cases hpx : p x = true
        · rw [if_pos hpx, List.length_cons]; omega
        · rw [if_neg hpx]; exact ih
theorem leftN_set {L : Array Bool} {i : Nat} (hi : i < ops.size) (hL : L.getD i true = false) : leftN ops (L.setIfInBounds i true) < leftN ops L := by
  unfold leftN
  refine filter_drop (List.range ops.size) (fun j hj => ?_) ?_ ?_ (List.mem_range.2 hi)
  · simp only [getD_set] at hj
    split at hj
    · simp at hj
    · exact hj
  · have := listed_self (L := L) (i := i)
    unfold listedAt at this
    simp [this]
  · simp [hL]
end
section
open Go.RowKit
variable {P : Program} {ops : Array Oper} {Q : Exit → Act → World → Prop} {l m : Nat}
/-- A region's ops in a round, in any order that is allowed: the pure ops yield what they yield at each stage that can be, the effects come in one order. -/
theorem engine (E : List Nat) (pu : List (Nat × Nat × List Nat × Nat × List Nat)) (Φ : Nat → Act → World → Prop) (hops : opsB ops = true) (heffB : effB ops E = true) (hElt : ∀ e ∈ E, e < ops.size) (hpuB : pu.all (puB ops E) = true) (hall : allB ops E (pu.map (·.1)) = true)
    (hpure : ∀ p ∈ pu, ∀ o, ops[p.1]? = some o → ∃ d v, o.dst = some d ∧ ∀ k b w, p.2.2.2.1 ≤ k → k ≤ p.2.1 → Φ k b w → b.tmps.getD d undef = v ∧ (execOp b.eval o).run P w = .ok (.value v) w)
    (heff : ∀ k e o, E[k]? = some e → ops[e]? = some o → ∀ b w, Φ k b w → UpV P m (fun v w' => Φ (k + 1) (b.put o.dst v) w') ((execOp b.eval o).run P w))
    (hfin : ∀ k b w, E.length ≤ k → Φ k b w → Q .normal b w) :
    ∀ (fuel : Nat) (L : Array Bool) (k : Nat) (a b : Act) (w : World), leftN ops L ≤ fuel → k ≤ E.length → L.size = ops.size → ClosedL ops L → (∀ j e, E[j]? = some e → (listedAt L e ↔ j < k)) → RelL ops L b a → Φ k b w →
      wpAnyIn (Fence.wide.inRound l) m P .any ops Q fuel L a w := by
  have hready : ∀ L : Array Bool, L.size = ops.size → Region.ready .any ops L = [] → ∀ j, j < ops.size → listedAt L j := by
    intro L hLs hr j
    induction j using Nat.strongRecOn with
    | _ j ih =>
      intro hj
      obtain ⟨o, ho⟩ : ∃ o, ops[j]? = some o := ⟨_, Array.getElem?_eq_getElem hj⟩
      obtain ⟨-, -, hb⟩ := opsB_at hops ho
      by_cases hl : listedAt L j
      · exact hl
      · exfalso
        have : j ∈ Region.ready .any ops L := by
          unfold Region.ready
          refine List.mem_filter.2 ⟨List.mem_range.2 hj, ?_⟩
          rw [ho]
          simp only [Option.map_some, Option.getD_some, Bool.and_eq_true, Bool.not_eq_true']
          refine ⟨by unfold listedAt at hl; simpa using hl, ?_⟩
          rw [Array.all_eq_true_iff_forall_mem]
          intro e he
          unfold backB at hb
          have h1 := (Array.all_eq_true_iff_forall_mem.1 hb) e he
          cases hbd : Region.binds .any e with
          | false => rfl
          | true =>
            rw [hbd] at h1
            simp only [Bool.not_true, Bool.false_or, decide_eq_true_eq] at h1 ⊢
            have h2 := ih e.on h1 (by omega)
            unfold listedAt at h2
            rw [Array.getD_eq_getD_getElem?, Array.getElem?_eq_getElem (by omega)] at h2 ⊢
            exact h2
        rw [hr] at this; cases this
  have hend : ∀ (L : Array Bool) (k : Nat) (a b : Act) (w : World), (∀ j, j < ops.size → listedAt L j) → (∀ j e, E[j]? = some e → (listedAt L e ↔ j < k)) → RelL ops L b a → Φ k b w → Q .normal a w := by
    intro L k a b w hA hS hR hΦ
    rw [hR.eq hA]
    refine hfin k b w ?_ hΦ
    by_cases h0 : E.length = 0
    · omega
    · obtain ⟨e, he⟩ : ∃ e, E[E.length - 1]? = some e := ⟨_, List.getElem?_eq_getElem (by omega)⟩
      have := (hS _ e he).1 (hA e (hElt e (List.mem_of_getElem? he)))
      omega
  intro fuel
  induction fuel with
  | zero =>
    intro L k a b w hn hkE hLs hC hS hR hΦ
    have hA := leftN_zero (ops := ops) (L := L) (by omega)
    refine ⟨?_, hend L k a b w hA hS hR hΦ⟩
    unfold Region.ready
    refine List.filter_eq_nil_iff.2 fun j hj => ?_
    have := hA j (List.mem_range.1 hj)
    unfold listedAt at this
    simp [this]
  | succ fuel ih =>
    intro L k a b w hn hkE hLs hC hS hR hΦ
    refine ⟨fun hr => hend L k a b w (hready L hLs hr) hS hR hΦ, fun i hi => ?_⟩
    unfold Region.ready at hi
    obtain ⟨hi1, hi2⟩ := List.mem_filter.1 hi
    have hi3 := List.mem_range.1 hi1
    obtain ⟨o, ho⟩ : ∃ o, ops[i]? = some o := ⟨_, Array.getElem?_eq_getElem hi3⟩
    rw [ho] at hi2
    simp only [Option.map_some, Option.getD_some, Bool.and_eq_true, Bool.not_eq_true'] at hi2
    obtain ⟨hi4, hi5⟩ := hi2
    obtain ⟨hok, hrd, -⟩ := opsB_at hops ho
    obtain ⟨hnd, hns, hng⟩ := okOp_spec hok
    have hdep : ∀ j, edgeB ops i j = true → L.getD j false = true := by
      intro j hj
      unfold edgeB at hj
      rw [ho] at hj
      obtain ⟨x, hxl, h2⟩ := Array.any_eq_true.1 hj
      simp only [Bool.and_eq_true, beq_iff_eq] at h2
      have h3 := (Array.all_eq_true_iff_forall_mem.1 hi5) _ (Array.getElem_mem hxl)
      rw [h2.1] at h3
      simp only [Bool.not_true, Bool.false_or] at h3
      rw [← h2.2]; exact h3
    have hC' : ClosedL ops (L.setIfInBounds i true) := by
      intro j i' hj he
      rw [getD_set]
      split
      · rfl
      · by_cases e : i = j
        · subst e; exact hdep i' he
        · exact hC j i' (listed_ne e hj) he
    have hn' : leftN ops (L.setIfInBounds i true) ≤ fuel := by
      have := leftN_set (ops := ops) hi3 hi4
      omega
    have hev : ∀ x ∈ o.op.operands, a.eval x = b.eval x := hR.eval fun x hx t hxt j o' hj hd => by
      subst hxt
      exact getD_true (hdep j (rdB_spec hrd hx hj hd))
    have hrun : ∀ W, (Oper.semAt (Fence.wide.inRound l).round a.eval o).run P W = (execOp b.eval o).run P W := fun W => by
      rw [show (Fence.wide.inRound l).round = some l from rfl, Oper.semAt_some l _ _ hnd, execOp_congr o hns hev]
    unfold wpOpIn
    rw [ho]
    have hw : Region.wanted o (yielded ops a.tmps) = true := by unfold Region.wanted; rw [hng]
    simp only [hw, if_true]
    refine ⟨fun f _ => trivial, ?_⟩
    rw [hrun]
    by_cases hE : i ∈ E
    · obtain ⟨j, hj⟩ := List.mem_iff_getElem?.1 hE
      have hkj : ¬ j < k := fun h2 => by
        have := (hS j i hj).2 h2
        unfold listedAt at this
        rw [hi4] at this; cases this
      have hjk : j = k := by
        by_cases h0 : j = k
        · exact h0
        · exfalso
          obtain ⟨j', rfl⟩ : ∃ j', j = j' + 1 := ⟨j - 1, by omega⟩
          obtain ⟨e', he'⟩ : ∃ e', E[j']? = some e' := ⟨_, List.getElem?_eq_getElem (by have := (List.getElem?_eq_some_iff.1 hj).1; omega)⟩
          have h1 := getD_true (hdep e' (effB_edge heffB he' hj))
          have := (hS j' e' he').1 h1
          omega
      subst hjk
      have hS' : ∀ j' e, E[j']? = some e → (listedAt (L.setIfInBounds i true) e ↔ j' < j + 1) := by
        intro j' e he
        by_cases e1 : i = e
        · subst e1
          have : j' = j := by
            rcases Nat.lt_trichotomy j' j with h | h | h
            · exact absurd (effB_lt heffB h he hj) (by omega)
            · exact h
            · exact absurd (effB_lt heffB h hj he) (by omega)
          exact ⟨fun _ => by omega, fun _ => listed_self⟩
        · have hne : j' ≠ j := fun h => by
            subst h
            rw [he] at hj
            exact e1 (Option.some.inj hj).symm
          exact ⟨fun h => by have := (hS j' e he).1 (listed_ne e1 h); omega, fun h => listed_set ((hS j' e he).2 (by omega))⟩
      have hup := heff j i o hj ho b w hΦ
      have next : ∀ v w', Φ (j + 1) (b.put o.dst v) w' → wpAnyIn (Fence.wide.inRound l) m P .any ops Q fuel (L.setIfInBounds i true) (a.put o.dst v) w' := fun v w' h => ih _ (j + 1) _ _ w' hn' (by have := (List.getElem?_eq_some_iff.1 hj).1; omega) (by simpa using hLs) hC' hS' (hR.eff ho v) h
      generalize (execOp b.eval o).run P w = r at hup
      cases r with
      | ok x w' =>
        cases x with
        | value v => exact next v w' hup
        | skip => exact next undef w' hup
        | enter f args =>
          refine ⟨fun h => (by simp [Fence.wide] at h), ?_⟩
          refine CallsIn.mono (CallsIn.inRound l hup) ?_
          rintro e w'' ⟨v, rfl, h⟩
          exact next v w'' h
        | _ => exact hup.elim
      | _ => exact hup.elim
    · have hpx : ∃ p ∈ pu, p.1 = i := by
        unfold allB at hall
        have := List.all_eq_true.1 hall i hi1
        simp only [Bool.or_eq_true, List.contains_iff_mem] at this
        rcases this with h | h
        · exact absurd h hE
        · obtain ⟨p, hp, e⟩ := List.mem_map.1 h
          exact ⟨p, hp, e⟩
      obtain ⟨p, hp, rfl⟩ := hpx
      have hpB := List.all_eq_true.1 hpuB p hp
      unfold puB at hpB
      simp only [Bool.and_eq_true, Bool.or_eq_true, beq_iff_eq] at hpB
      obtain ⟨-, hp1, hp2, hp3, hp4⟩ := hpB
      have hk : k ≤ p.2.1 := by
        rcases hp3 with h | h
        · omega
        · split at h
          · rename_i e he
            have he2 : p.2.2.1.getLast? = some e := by simpa using h
            by_cases h0 : k ≤ p.2.1
            · exact h0
            · exfalso
              have h1 := (hS p.2.1 e he).2 (by omega)
              have := path_listed hC p.2.2.1 p.1 hp1 hp2 e he2 h1
              unfold listedAt at this
              rw [hi4] at this; cases this
          · cases h
      have hlo : p.2.2.2.1 ≤ k := by
        rcases hp4 with h | h
        · omega
        · split at h
          · rename_i e he
            simp only [Bool.and_eq_true, beq_iff_eq] at h
            have h1 := path_from hC hdep p.2.2.2.2 e h.1 h.2
            have := (hS _ e he).1 h1
            omega
          · cases h
      obtain ⟨d, v, hd, hpv⟩ := hpure p hp o ho
      obtain ⟨hv, hr⟩ := hpv k b w hlo hk hΦ
      rw [hr]
      have hS' : ∀ j' e, E[j']? = some e → (listedAt (L.setIfInBounds p.1 true) e ↔ j' < k) := by
        intro j' e he
        have hne : p.1 ≠ e := fun h => hE (h ▸ List.mem_of_getElem? he)
        exact ⟨fun h => (hS j' e he).1 (listed_ne hne h), fun h => listed_set ((hS j' e he).2 h)⟩
      exact ih _ k _ b w hn' hkE (by simpa using hLs) hC' hS' (hR.pure ho hd hv) hΦ
/-- The law of a drawn region in a round. -/
theorem region_round {id : Nat} {a b : Act} {w : World} (hm : P.follows .mixedOrders = true) (E : List Nat) (pu : List (Nat × Nat × List Nat × Nat × List Nat)) (Φ : Nat → Act → World → Prop) (hops : opsB ops = true) (heffB : effB ops E = true) (hElt : ∀ e ∈ E, e < ops.size) (hpuB : pu.all (puB ops E) = true) (hall : allB ops E (pu.map (·.1)) = true)
    (hb : RelL ops (Array.replicate ops.size false) b a) (h0 : Φ 0 b w.drew)
    (hpure : ∀ p ∈ pu, ∀ o, ops[p.1]? = some o → ∃ d v, o.dst = some d ∧ ∀ k b w, p.2.2.2.1 ≤ k → k ≤ p.2.1 → Φ k b w → b.tmps.getD d undef = v ∧ (execOp b.eval o).run P w = .ok (.value v) w)
    (heff : ∀ k e o, E[k]? = some e → ops[e]? = some o → ∀ b w, Φ k b w → UpV P m (fun v w' => Φ (k + 1) (b.put o.dst v) w') ((execOp b.eval o).run P w))
    (hfin : ∀ k b w, E.length ≤ k → Φ k b w → Q .normal b w) :
    (Code.region id ops true).wpIn (Fence.wide.inRound l) m P Q a w := by
  refine wpIn_region_any hm ?_
  have hno : ∀ j, j < ops.size → ¬ listedAt (Array.replicate ops.size false) j := fun j hj h => by
    unfold listedAt at h
    rw [Array.getD_eq_getD_getElem?, Array.getElem?_replicate, if_pos hj] at h
    cases h
  refine engine E pu Φ hops heffB hElt hpuB hall hpure heff hfin ops.size _ 0 a b w.drew ?_ (Nat.zero_le _) (by simp) ?_ ?_ hb h0
  · unfold leftN
    exact Nat.le_trans (List.length_filter_le _ _) (by simp)
  · intro j i hj he
    unfold edgeB at he
    cases ho : ops[j]? with
    | none => rw [ho] at he; cases he
    | some o => exact absurd hj (hno j (Array.getElem?_eq_some_iff.1 ho).1)
  · intro j e he
    exact ⟨fun h => absurd h (hno e (hElt e (List.mem_of_getElem? he))), fun h => absurd h (Nat.not_lt_zero j)⟩
end
section
open Go.RowKit
variable {P : Program} {ops : Array Oper} {Q : Exit → Act → World → Prop} {l m : Nat}
/-- A pure op: its place, its slot, its value, the last stage at which it may come, the path to the effect that waits for it. -/
structure Pr1 where
  i : Nat
  d : Nat
  v : Value
  lim : Nat
  path : List Nat
  lo : Nat
  frm : List Nat
def putsP : List Pr1 → Act → Act
  | [], a => a
  | p :: r, a => putsP r (a.put (some p.d) p.v)
def dstB (ops : Array Oper) (is : List (Nat × Nat)) : Bool := is.all fun p => match ops[p.1]? with
  | some o => o.dst == some p.2
  | none => false
def PureAll (P : Program) (ops : Array Oper) (Φ : Nat → Act → World → Prop) : List Pr1 → Prop
  | [] => True
  | p :: r => (∃ o, ops[p.i]? = some o ∧ ∀ k b w, p.lo ≤ k → k ≤ p.lim → Φ k b w → b.tmps.getD p.d undef = p.v ∧ (execOp b.eval o).run P w = .ok (.value p.v) w) ∧ PureAll P ops Φ r
def EffAll (P : Program) (m : Nat) (ops : Array Oper) (Φ : Nat → Act → World → Prop) : Nat → List Nat → Prop
  | _, [] => True
  | k, e :: r => (∃ o, ops[e]? = some o ∧ ∀ b w, Φ k b w → UpV P m (fun v w' => Φ (k + 1) (b.put o.dst v) w') ((execOp b.eval o).run P w)) ∧ EffAll P m ops Φ (k + 1) r
theorem pureAll_at {Φ : Nat → Act → World → Prop} : ∀ {pl : List Pr1}, PureAll P ops Φ pl → ∀ p ∈ pl, ∃ o, ops[p.i]? = some o ∧ ∀ k b w, p.lo ≤ k → k ≤ p.lim → Φ k b w → b.tmps.getD p.d undef = p.v ∧ (execOp b.eval o).run P w = .ok (.value p.v) w
  | [], _, p, hp => by cases hp
  | q :: r, h, p, hp => by
    rcases List.mem_cons.1 hp with rfl | hp
    · exact h.1
    · exact pureAll_at h.2 p hp
theorem effAll_at {Φ : Nat → Act → World → Prop} : ∀ {E : List Nat} {k0 : Nat}, EffAll P m ops Φ k0 E → ∀ k e, E[k]? = some e → ∃ o, ops[e]? = some o ∧ ∀ b w, Φ (k0 + k) b w → UpV P m (fun v w' => Φ (k0 + k + 1) (b.put o.dst v) w') ((execOp b.eval o).run P w)
  | [], _, _, k, e, h => by simp at h
  | x :: r, k0, h, k, e, he => by
    cases k with
    | zero =>
      simp only [List.getElem?_cons_zero, Option.some.injEq] at he
      subst he
      exact h.1
    | succ k =>
      rw [List.getElem?_cons_succ] at he
      have := effAll_at h.2 k e he
      rw [show k0 + (k + 1) = k0 + 1 + k by omega]
      exact this
theorem putsP_rel {L : Array Bool} (hL : ∀ j, j < ops.size → ¬ listedAt L j) : ∀ (pl : List Pr1) (a : Act), (∀ p ∈ pl, ∃ o, ops[p.i]? = some o ∧ o.dst = some p.d) → RelL ops L (putsP pl a) a
  | [], a, _ => ⟨rfl, rfl, fun _ _ => rfl⟩
  | p :: r, a, h => by
    have ih := putsP_rel hL r (a.put (some p.d) p.v) (fun q hq => h q (by simp [hq]))
    obtain ⟨o, ho, hd⟩ := h p (by simp)
    refine ⟨ih.defers, by simpa [Act.put, putsP] using ih.size, fun t ht => ?_⟩
    have := ih.at_ t ht
    rw [putsP, ← this, getD_put]
    split
    · rename_i e
      exact absurd (ht p.i o ho (by rw [hd, e.1])) (hL p.i (Array.getElem?_eq_some_iff.1 ho).1)
    · rfl
theorem region_pure {id : Nat} {a b : Act} {w : World} (hm : P.follows .mixedOrders = true) (E : List Nat) (pl : List Pr1) (Φ : Nat → Act → World → Prop) (hops : opsB ops = true) (heffB : effB ops E = true) (hElt : ∀ e ∈ E, e < ops.size) (hpuB : (pl.map fun p => (p.i, p.lim, p.path, p.lo, p.frm)).all (puB ops E) = true) (hall : allB ops E (pl.map (·.i)) = true)
    (hdst : dstB ops (pl.map fun p => (p.i, p.d)) = true) (hb : putsP pl a = b) (h0 : Φ 0 b w.drew) (hpure : PureAll P ops Φ pl) (heff : EffAll P m ops Φ 0 E) (hfin : ∀ k b w, E.length ≤ k → Φ k b w → Q .normal b w) :
    (Code.region id ops true).wpIn (Fence.wide.inRound l) m P Q a w := by
  have hd : ∀ p ∈ pl, ∃ o, ops[p.i]? = some o ∧ o.dst = some p.d := fun p hp => by
    have h1 := List.all_eq_true.1 hdst (p.i, p.d) (List.mem_map.2 ⟨p, hp, rfl⟩)
    simp only at h1
    split at h1
    · rename_i o ho
      exact ⟨o, ho, by simpa using h1⟩
    · cases h1
  refine region_round hm E (pl.map fun p => (p.i, p.lim, p.path, p.lo, p.frm)) Φ hops heffB hElt hpuB (by rw [List.map_map]; exact hall) ?_ h0 ?_ ?_ hfin
  · rw [← hb]
    refine putsP_rel (fun j hj h => ?_) pl a hd
    unfold listedAt at h
    rw [Array.getD_eq_getD_getElem?, Array.getElem?_replicate, if_pos hj] at h
    cases h
  · intro q hq o ho
    obtain ⟨p, hp, rfl⟩ := List.mem_map.1 hq
    obtain ⟨o', ho', hr⟩ := pureAll_at hpure p hp
    obtain ⟨o2, ho2, hd2⟩ := hd p hp
    simp only at ho
    rw [ho] at ho' ho2
    cases ho'; cases ho2
    exact ⟨p.d, p.v, hd2, hr⟩
  · intro k e o he ho b w hΦ
    obtain ⟨o', ho', hr⟩ := effAll_at heff k e he
    rw [ho] at ho'
    cases ho'
    have := hr b w (by rw [Nat.zero_add]; exact hΦ)
    rw [Nat.zero_add] at this
    exact this
theorem region_pureF {id : Nat} {a b : Act} {w : World} (hm : P.follows .mixedOrders = true) (E : List Nat) (pl : List Pr1) (Ψ : Act → Nat → Act → World → Prop) (hb : putsP pl a = b) (hops : opsB ops = true) (heffB : effB ops E = true) (hElt : ∀ e ∈ E, e < ops.size) (hpuB : (pl.map fun p => (p.i, p.lim, p.path, p.lo, p.frm)).all (puB ops E) = true) (hall : allB ops E (pl.map (·.i)) = true)
    (hdst : dstB ops (pl.map fun p => (p.i, p.d)) = true) (h0 : Ψ b 0 b w.drew) (hpure : PureAll P ops (Ψ b) pl) (heff : EffAll P m ops (Ψ b) 0 E) (hfin : ∀ k b' w, E.length ≤ k → Ψ b k b' w → Q .normal b' w) :
    (Code.region id ops true).wpIn (Fence.wide.inRound l) m P Q a w := region_pure hm E pl (Ψ b) hops heffB hElt hpuB hall hdst hb h0 hpure heff hfin
theorem upV_ok {K : Value → World → Prop} {r : Result Next} {v : Value} {w' : World} (h : r = .ok (.value v) w') (hk : K v w') : UpV P m K r := by rw [h]; exact hk
theorem upV_skip {K : Value → World → Prop} {r : Result Next} {w' : World} (h : r = .ok .skip w') (hk : K undef w') : UpV P m K r := by rw [h]; exact hk
theorem upV_call {K : Value → World → Prop} {r : Result Next} {f : FuncId} {args : Array Value} {w' : World} (h : r = .ok (.enter f args) w') (hk : CallsIn Fence.wide (m - 1) P f args w' fun e w'' => ∃ v, e = .returned v ∧ K v w'') : UpV P m K r := by rw [h]; exact hk
end
end Go.Proofs.YthkmpegpmpdhaaaGreatDoor
