/- Part of the proof of TopOwnItem. Conditions: as stated in each theorem. -/
import Derived.Test.YthkmpegpmpdhaaaGreatDoorZGq
import Derived.Test.YthkmpegpmpdhaaaGreatDoorProg
import Derived.WalkMore
import Derived.Maps.OwnIn
import Derived.Deep.LoopGhost
import Derived.RangeFuncNested
import Derived.RangeFuncCalls
import Derived.RangeFuncLeaves
import Derived.RangeFuncWrites
import Derived.Shelf.Abstract
import Derived.Shelf.RegionOpen
import Derived.OwnWalkIn
import Derived.TacticsInMore
import Derived.LoopNIn
import Derived.LoopIn
import Derived.RangeFuncBound
import Derived.WalkKit
import Derived.WalkSpells
import Derived.WalkLawsBesides
import Derived.Laws.EntriesVeiled
import Derived.ProofKit
import Derived.OpenShut
import Derived.Lib.Hide
import Derived.BigQuiet
import Derived.Deep.QuietTactic
import Derived.Deep.CutRange
import Derived.StillTailTactics
import Derived.Lib.SliceRun
import Derived.RangeFuncRecord
import Derived.Carry
import Derived.ChangeKeysEq
import Derived.Below
import Derived.Laws.OwnMore
import Derived.Deep.AppendLies
import Derived.Deep.Draws
import Derived.Laws.Rows
import Derived.Maps.AppendAt
import Derived.RegionTactic
import Derived.OwnWalk
import Derived.Deep.RegionHeld3
namespace Go.Proofs.YthkmpegpmpdhaaaGreatDoor
open Go.Shelf Go.ChangeShapes Go.WideShapes Go.ChangeAt Go.RowKit
set_option linter.unusedSimpArgs false
set_option linter.unusedVariables false
attribute [local go_sem] Oper.semAt_some
/-- The scanner of each office, by the scanners that have been seen. -/
def firstG (pre : List (Scn × Nat)) : Int → Option Nat := pre.foldl (fun g p => fun q => if q = p.1.off then some p.2 else g q) (fun _ => none)
theorem firstG_snoc (pre : List (Scn × Nat)) (p : Scn × Nat) : firstG (pre ++ [p]) = fun q => if q = p.1.off then some p.2 else firstG pre q := by unfold firstG; rw [List.foldl_append]; rfl
theorem firstG_lt (l : List (Scn × Nat)) (q : Int) (i : Nat) (h : firstG l q = some i) : ∃ p ∈ l, p.2 = i := by
  rw [← List.reverse_reverse l] at h ⊢
  generalize l.reverse = r at h ⊢
  induction r with
  | nil => cases h
  | cons p r ih =>
    rw [List.reverse_cons, firstG_snoc] at h
    dsimp only at h
    split at h
    · cases h; exact ⟨p, by simp, rfl⟩
    · obtain ⟨p2, h1, h2⟩ := ih h
      exact ⟨p2, by rw [List.reverse_cons]; exact List.mem_append_left _ h1, h2⟩
abbrev iv : Int → Value := fun x => Value.int .i64 x
abbrev iEq : Int → Int → Bool := fun a b => a == b
/-- The first loop between two rounds. -/
structure FiI (w : World) (m FB : Nat) (pre : List (Scn × Nat)) (own : Nat → Prop) (W : World) : Prop where
  own : ∀ k, own k ↔ k = m
  map : MapTo iv iEq W m (fun q => (firstG pre q).map fun i : Nat => Value.int .i64 (i : Int))
  blk : Blk W FB 104 #[.map (some m)]
  low : Keeps w W
  new : w.heap.size ≤ m
theorem FiI.abide {w w2 : World} {m FB : Nat} (h : w.heap.size ≤ w2.heap.size) (hf : FB < w2.heap.size) : AbideO w2.heap.size (FiI w m FB) := by
  rintro pre own A B row hi hg hr
  refine ⟨hi.own, hi.map.grown hg (fun e => (hr m e).2 ((hi.own m).2 rfl)), hi.blk.grown hg (fun e => by have := (hr FB e.symm).1; omega), grown_keeps hi.low hg (fun k e => by have := (hr k e).1; omega), hi.new⟩
/-- What is seen of a record. -/
def Rec.v (x : Rec) : Int × Int × ByteArray × List ByteArray := (x.ki, x.ti, x.lab, x.con)
def Ob.v (x : Ob) : Int × Int × ByteArray × List ByteArray := (x.ki, x.ti, x.lab, x.con)
/-- What is recorded. -/
def keptO (g : Int → Option Nat) (l : List Ob) : List Ob := l.filter fun o => (g o.off).isSome && decide (o.ti ≤ 1000000)
theorem beq_iff (x y : Int) : iEq x y = true ↔ x = y := by simp [iEq]
theorem keptO_snoc (g : Int → Option Nat) (l : List Ob) (o : Ob) : keptO g (l ++ [o]) = keptO g l ++ (if (g o.off).isSome && decide (o.ti ≤ 1000000) then [o] else []) := by
  unfold keptO
  rw [List.filter_append]
  congr 1
  simp only [List.filter_cons, List.filter_nil]
theorem ownsRow_base {w : World} {b b' : Nat} {e : TypeId} {size n : Nat} {v : Value} {xs : List Value} (h : w.ownsRow b e size v n xs) (hb : b' ≤ b) : w.ownsRow b' e size v n xs := by
  refine ⟨h.1, ?_⟩
  rcases h.2 with h2 | ⟨g, cap, cur, h3, h4, h5⟩
  · exact .inl h2
  · exact .inr ⟨g, cap, cur, h3, Nat.le_trans hb h4, h5⟩
/-- The second loop between two rounds. -/
structure ReI (w : World) (m FB LB DA Z nl : Nat) (g : Int → Option Nat) (pre : List Obs) (own : Nat → Prop) (W : World) : Prop where
  low : Keeps w W
  map : MapTo iv iEq W m (fun q => (g q).map fun i : Nat => Value.int .i64 (i : Int))
  blk : Blk W FB 104 #[.map (some m)]
  dfd : W.heap[DA]? = some (.deferred (some []))
  own0 : own LB
  lst : ∃ (A : Option Addr) (c : Nat) (L : List Rec), Blk W LB 23 #[.slice A L.length c] ∧ W.ownsRow Z 26 6 (.slice A L.length c) L.length (recCells rcR L) ∧ (∀ k, (Value.slice A L.length c).ownBlock = some k → own k) ∧ L.map Rec.v = (keptO g (pre.map Obs.ob)).map Ob.v ∧
    ∀ x ∈ L, RecIn strR W W.heap.size x.A x.con ∧ (x.con ≠ [] → ∀ k off, x.A = some ⟨k, off, none⟩ → own k ∧ k ≠ LB ∧ (Value.slice A L.length c).ownBlock ≠ some k) ∧ ∃ i : Nat, x.sc = (i : Int) ∧ i < nl
theorem recIn_off {w w' : World} {B B' : Nat} {A : Option Addr} {l : List ByteArray} (h : RecIn strR w B A l) (hB : B ≤ B') (hs : l ≠ [] → ∀ k off, A = some ⟨k, off, none⟩ → w'.heap[k]? = w.heap[k]?) : RecIn strR w' B' A l := by
  by_cases hl : l = []
  · subst hl; exact RecIn.nil _
  · exact (h.same (hs hl)).more hB
theorem ReI.abide {w : World} {m FB LB DA Z nl : Nat} {g : Int → Option Nat} (h : w.heap.size ≤ Z) (h1 : m < Z) (h2 : FB < Z) (h3 : LB < Z) (h4 : DA < Z) : AbideO Z (ReI w m FB LB DA Z nl g) := by
  rintro pre own A B row hi hg hr
  have hne : ∀ q : Nat, q < Z → some q ≠ row := fun q hq e => by have := (hr q e.symm).1; omega
  obtain ⟨sA, c, L, b1, b2, b3, b4, b5⟩ := hi.lst
  refine ⟨grown_keeps hi.low hg (fun k e => by have := (hr k e).1; omega), hi.map.grown hg (fun e => hne m h1 e.symm), hi.blk.grown hg (hne FB h2), (hg.block DA (Array.getElem?_eq_some_iff.1 hi.dfd).1 (hne DA h4)).trans hi.dfd, hi.own0, sA, c, L, b1.grown hg (hne LB h3), b2.kept hg ?_, b3, b4, fun x hx => ?_⟩
  · cases hv : (Value.slice sA L.length c).ownBlock with
    | none => exact .inl rfl
    | some k => exact .inr (fun e => (hr k e.symm).2 (b3 k hv))
  · obtain ⟨c1, c2, c3⟩ := b5 x hx
    refine ⟨recIn_off c1 hg.size (fun hne2 k off e => ?_), c2, c3⟩
    have hk := (c2 hne2 k off e).1
    obtain ⟨y, hy⟩ := List.exists_mem_of_ne_nil _ hne2
    obtain ⟨j, hj⟩ := List.mem_iff_getElem?.1 hy
    obtain ⟨b, of2, e3, hb, _⟩ := c1 j y hj
    rw [e] at e3; cases e3
    exact hg.block k hb (fun e4 => (hr k e4.symm).2 hk)
set_option maxRecDepth 100000 in
set_option maxHeartbeats 8000000 in
/-- A round that takes nothing. -/
theorem ReI.skip {w : World} {m FB LB DA Z nl : Nat} {g : Int → Option Nat} {pre : List Obs} {own : Nat → Prop} {W : World} (h : ReI w m FB LB DA Z nl g pre own W) (x : Obs) (hx : ((g x.ob.off).isSome && decide (x.ob.ti ≤ 1000000)) = false) : ReI w m FB LB DA Z nl g (pre ++ [x]) own W := by
  obtain ⟨sA, c, L, b1, b2, b3, b4, b5⟩ := h.lst
  refine ⟨h.low, h.map, h.blk, h.dfd, h.own0, sA, c, L, b1, b2, b3, ?_, b5⟩
  rw [List.map_append, List.map_cons, List.map_nil, keptO_snoc, hx, b4]
  simp
/-- A round that takes the record. -/
theorem ReI.take {w : World} {m FB LB DA Z nl B i n5 c5 : Nat} {g : Int → Option Nat} {pre : List Obs} {own : Nat → Prop} {W W5 : World} {A A5 : Option Addr} {c : Nat} {L : List Rec} {R : Rec} (h : ReI w m FB LB DA Z nl g pre own W) (x : Obs)
    (hwZ : w.heap.size ≤ Z) (hm : m < Z) (hFB : FB < Z) (hDA : DA < Z) (hLB : LB < Z) (hwLB : w.heap.size ≤ LB) (hmL : m ≠ LB) (hFL : FB ≠ LB) (hDL : DA ≠ LB) (hZB : Z ≤ B) (hBW : B < W.heap.size) (hob : ∀ k, own k → k < B) (hgi : ∀ k, givO x k → ¬ own k ∧ k < B)
    (b1 : Blk W LB 23 #[.slice A L.length c]) (b2 : W.ownsRow Z 26 6 (.slice A L.length c) L.length (recCells rcR L)) (b3 : ∀ k, (Value.slice A L.length c).ownBlock = some k → own k) (b4 : L.map Rec.v = (keptO g (pre.map Obs.ob)).map Ob.v)
    (b5 : ∀ x ∈ L, RecIn strR W W.heap.size x.A x.con ∧ (x.con ≠ [] → ∀ k off, x.A = some ⟨k, off, none⟩ → own k ∧ k ≠ LB ∧ (Value.slice A L.length c).ownBlock ≠ some k) ∧ ∃ i : Nat, x.sc = (i : Int) ∧ i < nl)
    (hx : PrO x W) (hR : R = ⟨(i : Int), 0, x.ob.ki, x.ob.ti, x.ob.lab, x.ob.con, x.A, x.c⟩) (hg : g x.ob.off = some i) (hti : x.ob.ti ≤ 1000000) (hi : i < nl)
    (W2 : World) (hW2 : W2 = (W.setCell ⟨B, 0, none⟩ (.int .i64 (i : Int))).alloc (.cells #[.int .i64 (i : Int), .int .i64 0, .int .i64 x.ob.ki, .int .i64 x.ob.ti, .string x.ob.lab, .slice x.A x.ob.con.length x.c] 26))
    (ho : W5.ownsRow Z 26 6 (.slice A5 n5 c5) n5 (recCells rcR (L ++ [R]))) (hn5 : n5 = (L ++ [R]).length) (hgr : W2.grownBy W5 (Value.slice A L.length c).ownBlock) (hat : (Value.slice A5 n5 c5).ownBlock = (Value.slice A L.length c).ownBlock ∨ (Value.slice A5 n5 c5).ownBlock = some W2.heap.size) :
    ∃ own', ReI w m FB LB DA Z nl g (pre ++ [x]) own' (W5.setCell ⟨LB, 0, none⟩ (.slice A5 n5 c5)) ∧ W.heap.size ≤ (W5.setCell ⟨LB, 0, none⟩ (.slice A5 n5 c5)).heap.size ∧ (∀ k, k < B → ¬ own k → (W5.setCell ⟨LB, 0, none⟩ (.slice A5 n5 c5)).heap[k]? = W.heap[k]?) ∧ ∀ k, own' k → (own k ∨ givO x k ∨ B ≤ k) ∧ k < (W5.setCell ⟨LB, 0, none⟩ (.slice A5 n5 c5)).heap.size := by
  subst hn5
  have hz2 : W2.heap.size = W.heap.size + 1 := by rw [hW2]; simp
  have hz5 := hgr.size
  have hsz : (W5.setCell ⟨LB, 0, none⟩ (.slice A5 (L ++ [R]).length c5)).heap.size = W5.heap.size := by simp
  have hlow2 : ∀ k, k < W.heap.size → k ≠ B → W2.heap[k]? = W.heap[k]? := fun k h1 h2 => by
    rw [hW2, Below.heap_alloc _ _ k (by simpa using h1)]
    exact Below.heap_setCell _ _ _ k h2
  have hob2 : ∀ k, (Value.slice A L.length c).ownBlock = some k → Z ≤ k ∧ k < W.heap.size := fun k hk => own_lt b2 hk
  have hsame : ∀ k, k < W.heap.size → k ≠ B → k ≠ LB → (Value.slice A L.length c).ownBlock ≠ some k → (W5.setCell ⟨LB, 0, none⟩ (.slice A5 (L ++ [R]).length c5)).heap[k]? = W.heap[k]? := fun k h1 h2 h3 h4 => by
    rw [Below.heap_setCell _ _ _ k h3, hgr.block k (by omega) (fun e => h4 e.symm)]
    exact hlow2 k h1 h2
  have hLB5 : Blk W5 LB 23 #[.slice A L.length c] := by
    refine (show Blk W2 LB 23 #[.slice A L.length c] from (hlow2 LB (by omega) (by omega)).trans b1).grown hgr (fun e => ?_)
    have := hob2 LB e.symm
    omega
  have hgb := grownBy_cell W5 ⟨LB, 0, none⟩ (.slice A5 (L ++ [R]).length c5)
  have hcells : ∀ (y : Option Addr) (l : List ByteArray), RecIn strR W W.heap.size y l → l ≠ [] → ∀ k off, y = some ⟨k, off, none⟩ → k < W.heap.size := fun y l hr hne k off e => by
    obtain ⟨z, hz⟩ := List.exists_mem_of_ne_nil _ hne
    obtain ⟨j, hj⟩ := List.mem_iff_getElem?.1 hz
    obtain ⟨b, of2, e3, hb, hc⟩ := hr j z hj
    rw [e] at e3; cases e3
    exact hb
  have hnew : ∀ k, k < W.heap.size → (Value.slice A L.length c).ownBlock ≠ some k → (Value.slice A5 (L ++ [R]).length c5).ownBlock ≠ some k := fun k h1 h2 h3 => by
    rcases hat with e | e
    · rw [e] at h3; exact h2 h3
    · rw [e] at h3; cases h3; omega
  have hgv : ∀ k, givO x k → k ≠ LB ∧ (Value.slice A L.length c).ownBlock ≠ some k := fun k hk => ⟨fun e => (hgi k hk).1 (by rw [e]; exact h.own0), fun e => (hgi k hk).1 (b3 k e)⟩
  have hmapR : (L ++ [R]).map Rec.v = (keptO g ((pre ++ [x]).map Obs.ob)).map Ob.v := by
    rw [List.map_append, List.map_append, List.map_cons, List.map_nil, List.map_cons, List.map_nil, keptO_snoc, hg, b4, List.map_append]
    simp [hti, hR, Rec.v, Ob.v]
  refine ⟨fun k => own k ∨ givO x k ∨ (Value.slice A5 (L ++ [R]).length c5).ownBlock = some k, ⟨?_, ?_, ?_, ?_, .inl h.own0, A5, c5, L ++ [R], ?_, ?_, fun k hk => .inr (.inr hk), hmapR, fun y hy => ?_⟩, by omega, fun k h1 h2 => hsame k (by omega) (by omega) (fun e => h2 (by rw [e]; exact h.own0)) (fun e => h2 (b3 k e)), fun k hk => ?_⟩
  · refine ⟨?_, ?_, ?_, by have := h.low.size; omega, fun k hk => ?_⟩
    · rw [show (W5.setCell ⟨LB, 0, none⟩ (.slice A5 (L ++ [R]).length c5)).os = W5.os from rfl, hgr.os, hW2]; exact h.low.os
    · rw [show (W5.setCell ⟨LB, 0, none⟩ (.slice A5 (L ++ [R]).length c5)).tape = W5.tape from rfl, hgr.tape, hW2]; exact h.low.tape
    · rw [show (W5.setCell ⟨LB, 0, none⟩ (.slice A5 (L ++ [R]).length c5)).output = W5.output from rfl, hgr.output, hW2]; exact h.low.output
    · exact (hsame k (by have := h.low.size; omega) (by omega) (by omega) (fun e => by have := hob2 k e; omega)).trans (h.low.block k hk)
  · exact h.map.same (hsame m (by omega) (by omega) hmL (fun e => by have := hob2 m e; omega))
  · exact (hsame FB (by omega) (by omega) hFL (fun e => by have := hob2 FB e; omega)).trans h.blk
  · exact (hsame DA (by omega) (by omega) hDL (fun e => by have := hob2 DA e; omega)).trans h.dfd
  · exact hLB5.set_ 0 _
  · refine ho.kept hgb ?_
    cases hv : (Value.slice A5 (L ++ [R]).length c5).ownBlock with
    | none => exact .inl rfl
    | some k => exact .inr (fun e => by have h3 := own_lt ho hv; have h4 : k = LB := Option.some.inj e; omega)
  · rcases List.mem_append.1 hy with hy | hy
    · obtain ⟨c1, c2, c3⟩ := b5 y hy
      refine ⟨recIn_off c1 (by omega) (fun hne k off e => ?_), fun hne k off e => ?_, c3⟩
      · obtain ⟨d1, d2, d3⟩ := c2 hne k off e
        exact hsame k (hcells _ _ c1 hne k off e) (fun e2 => by have := hob k d1; omega) d2 d3
      · obtain ⟨d1, d2, d3⟩ := c2 hne k off e
        exact ⟨.inl d1, d2, hnew k (hcells _ _ c1 hne k off e) d3⟩
    · rw [List.mem_singleton] at hy
      subst hy
      subst hR
      refine ⟨recIn_off hx (by show W.heap.size ≤ _; omega) (fun hne k off e => ?_), fun hne k off e => ?_, i, rfl, hi⟩
      · have hk : givO x k := ⟨hne, off, e⟩
        exact hsame k (hcells _ _ hx hne k off e) (fun e2 => by have := (hgi k hk).2; omega) (hgv k hk).1 (hgv k hk).2
      · have hk : givO x k := ⟨hne, off, e⟩
        exact ⟨.inr (.inl hk), (hgv k hk).1, hnew k (hcells _ _ hx hne k off e) (hgv k hk).2⟩
  · rcases hk with hk | hk | hk
    · exact ⟨.inl hk, by have := hob k hk; omega⟩
    · exact ⟨.inr (.inl hk), by have := (hgi k hk).2; omega⟩
    · refine ⟨?_, by have := own_lt ho hk; omega⟩
      rcases hat with e | e
      · rw [e] at hk; exact .inl (b3 k hk)
      · rw [e] at hk; cases hk; exact .inr (.inr (by omega))
def z0 (x : Rec) : Rec := { x with nu := 0 }
/-- Records while they are numbered. -/
structure NuI (w w7 : World) (A : Option Addr) (c CB nl : Nat) (L7 L8 : List Rec) (cs : List Int) (X : World) : Prop where
  o1 : OwnR rcR w X (.slice A L7.length c) L8
  o2 : OwnR intR w X (.slice (some ⟨CB, 0, none⟩) nl nl) cs
  l1 : L8.map z0 = L7.map z0
  l2 : cs.length = nl
  sm : ∀ k, k < w7.heap.size → (Value.slice A L7.length c).ownBlock ≠ some k → X.heap[k]? = w7.heap[k]?
  sz : w7.heap.size ≤ X.heap.size
theorem map_set_same {α β : Type} (f : α → β) {l : List α} {i : Nat} {x y : α} (hx : l[i]? = some x) (h : f y = f x) : (l.set i y).map f = l.map f := by
  rw [List.map_set, h]
  have h2 : (l.map f)[i]? = some (f x) := by rw [List.getElem?_map, hx]; rfl
  refine List.ext_getElem? (fun j => ?_)
  rw [List.getElem?_set]
  split
  · rename_i e
    subst e
    rw [h2]
    rw [if_pos (List.getElem?_eq_some_iff.1 h2).1]
  · rfl
section
variable {w w7 X : World} {c CB nl gb : Nat} {L7 L8 : List Rec} {cs : List Int}
theorem NuI.drew {A : Option Addr} (h : NuI w w7 A c CB nl L7 L8 cs X) : NuI w w7 A c CB nl L7 L8 cs X.drew := ⟨h.o1.keep (Keeps.refl X).drew, h.o2.keep (Keeps.refl X).drew, h.l1, h.l2, h.sm, h.sz⟩
theorem NuI.put1 (h : NuI w w7 (some ⟨gb, 0, none⟩) c CB nl L7 L8 cs X) (hg : gb < CB) {i : Nat} {x : Rec} (hx : L8[i]? = some x) (v : Int) : NuI w w7 (some ⟨gb, 0, none⟩) c CB nl L7 (L8.set i { x with nu := v }) cs (X.setCell ⟨gb, i * 6 + 1, none⟩ (.int .i64 v)) := by
  have h1 : OwnR rcR w (X.setCell ⟨gb, i * 6 + 1, none⟩ (.int .i64 v)) (.slice (some ⟨gb, 0, none⟩) L7.length c) (L8.set i { x with nu := v }) := OwnR.put (R := rcR) (fun _ => rfl) h.o1 (j := i) (i := 1) (x := x) (x' := { x with nu := v }) hx (by decide) rfl
  refine ⟨h1, ⟨h.o2.1.kept (grownBy_cell X _ _) (.inr (fun e => ?_)), h1.2⟩, ?_, h.l2, fun k hk hne => ?_, by simpa using h.sz⟩
  · have : CB = gb := by simpa [Value.ownBlock] using e
    omega
  · exact (map_set_same z0 (y := { x with nu := v }) hx rfl).trans h.l1
  · refine (Below.heap_setCell _ _ _ k (fun e => hne ?_)).trans (h.sm k hk hne)
    rw [e]; rfl
theorem NuI.put2 {A : Option Addr} (h : NuI w w7 A c CB nl L7 L8 cs X) (hCB : w7.heap.size ≤ CB) (hA : (Value.slice A L7.length c).ownBlock ≠ some CB) {s : Nat} {x : Int} (hx : cs[s]? = some x) (v : Int) : NuI w w7 A c CB nl L7 L8 (cs.set s v) (X.setCell ⟨CB, s, none⟩ (.int .i64 v)) := by
  have h2 := own_setI h.o2 v hx
  refine ⟨⟨h.o1.1.kept (grownBy_cell X _ _) ?_, h2.2⟩, h2, h.l1, by rw [List.length_set]; exact h.l2, fun k hk hne => (Below.heap_setCell _ _ _ k (show k ≠ CB by omega)).trans (h.sm k hk hne), by simpa using h.sz⟩
  exact .inr hA
end
def RecsPost (l : List Scn) (ts : List Trk) (n : Nat) (w : World) (e : Ending) (w' : World) : Prop :=
  ∃ (A' : Option Addr) (n' c' : Nat) (L L0 : List Rec), e = .returned (.slice A' n' c') ∧ OwnR rcR w w' (.slice A' n' c') L ∧ (∀ x ∈ L, RecIn strR w' w'.heap.size x.A x.con) ∧
    L0.map Rec.v = (keptO (firstG (revEnum l)) (obsO ts n n)).map Ob.v ∧ (∀ x ∈ L, ∃ y ∈ L0, x.v = y.v) ∧ (L0.length < 20 → L.map Rec.v = (stabF cfT L0.toArray).toList.map Rec.v)
theorem recIn_put {x : Obs} {X : World} {l : Nat} {o o' : Obj} (hx : PrO x X) (ho : X.heap[l]? = some o) (hc : o.isCells = false) : PrO x (X.putObj l o') := by
  unfold PrO at *
  have hz : (X.putObj l o').heap.size = X.heap.size := by simp
  rw [hz]
  intro j y hj
  obtain ⟨b, off, e, hb, hcell⟩ := hx j y hj
  refine ⟨b, off, e, hb, fun i u hu => ?_⟩
  have h1 := hcell i u hu
  have hne : b ≠ l := fun e2 => by
    subst e2
    unfold World.cell? at h1
    simp only [ho] at h1
    cases o <;> first | (simp [Obj.isCells] at hc; done) | (simp at h1; done)
  rw [← h1]
  unfold World.cell?
  simp only [World.putObj_heap_other hne]
theorem giv_cells {x : Obs} {X : World} {k : Nat} (hx : PrO x X) (hk : givO x k) : ∃ o : Obj, X.heap[k]? = some o ∧ o.isCells = true := by
  obtain ⟨hne, off, e⟩ := hk
  obtain ⟨y, hy⟩ := List.exists_mem_of_ne_nil _ hne
  obtain ⟨j, hj⟩ := List.mem_iff_getElem?.1 hy
  obtain ⟨b, of2, e3, hb, hc⟩ := hx j y hj
  rw [e] at e3; cases e3
  have h1 := hc 0 _ rfl
  have h2 : X.heap[k]? = some X.heap[k] := Array.getElem?_eq_getElem hb
  refine ⟨_, h2, ?_⟩
  unfold World.cell? at h1
  simp only [h2] at h1
  cases ho : X.heap[k] <;> rw [ho] at h1 <;> first | rfl | (simp at h1; done)
/-- What Records is asked. -/
structure RecH (l : List Scn) (ts : List Trk) (lA tA : Option Addr) (nl lc n tc : Nat) (w : World) : Prop where
  hl : RecIn scR w w.heap.size lA l
  hnl : nl = l.length
  nl9 : nl ≤ 1000
  hT : RecIn tkR w w.heap.size tA ts
  hn : n = ts.length
  n9 : n ≤ 1000
  ok : ∀ t ∈ ts, TrkOk w w.heap.size t
  wf : ∀ t ∈ ts, WfT t
  st : ∀ t ∈ ts, t.st.length ≤ 1000
  si : ∀ t ∈ ts, t.si.length ≤ 1000
  ob : (obsO ts n n).length ≤ 100000
set_option maxRecDepth 100000 in
set_option maxHeartbeats 16000000 in
theorem recs_all (l : List Scn) (ts : List Trk) (lA tA : Option Addr) (nl lc n tc : Nat) (w : World) (H : RecH l ts lA tA nl lc n tc w)
    (h34 : ∀ X, Keeps w X → Calls Tryz.prog 34 #[.slice lA nl lc] X (BoolPost true X)) (h35 : ∀ X, Keeps w X → Calls Tryz.prog 35 #[.slice tA n tc] X (BoolPost true X)) :
    Calls Tryz.prog 17 #[.slice lA nl lc, .slice tA n tc] w (RecsPost l ts n w) := by
  have HH := Lib.hid H
  have H34 := Lib.hid h34
  have H35 := Lib.hid h35
  clear h34 h35 H
  have hmk := @run_makeMap Tryz.prog
  refine (callsIn_wide (n := 3)).1 ?_
  refine callsIn_of_wp_marks Tryz.func17 rfl trivial ?_ rfl
  refine wpIn_wide.2 ?_
  simp only [Tryz.ntmps17, List.size_toArray, List.length_cons, List.length_nil, Nat.reduceAdd, Nat.reduceSub, Array.replicate_succ, Array.replicate_zero, List.push_toArray, List.append_toArray, List.nil_append, List.cons_append]
  go_wp2_with (first | (go_at_call 34; (with_reducible refine (H34.out _ (Keeps.refl w)).mono ?_); rintro e w1 ⟨rfl, hk1⟩; have K1 := Lib.hid hk1; clear hk1) | (go_at_call 35; (with_reducible refine (H35.out _ K1.out).mono ?_); rintro e w2 ⟨rfl, hk2⟩; have K2 := Lib.hid (K1.out.trans hk2); clear hk2) | (go_at_call 36; (with_reducible refine (backward36 _ _ _ _).mono ?_); rintro e w3 ⟨rfl, rfl⟩))
  clear hmk
  obtain ⟨m, hm⟩ : ∃ m, w2.heap.size = m := ⟨_, rfl⟩
  obtain ⟨FB, hFB⟩ : ∃ FB, m + 1 = FB := ⟨_, rfl⟩
  obtain ⟨MB, hMB⟩ : ∃ MB, m + 2 = MB := ⟨_, rfl⟩
  have HNUM := Lib.hid (show w.heap.size ≤ m ∧ m + 1 = FB ∧ m + 2 = MB ∧ ((((w2.alloc (.map #[] 0)).alloc (.cells #[.map (some m)] 104)).alloc (.cells #[.slice lA nl lc] 22))).heap.size = m + 3 from ⟨by have := K2.out.size; omega, hFB, hMB, by simp; omega⟩)
  have K3 := Lib.hid (((K2.out.alloc (.map #[] 0)).alloc (.cells #[.map (some m)] 104)).alloc (.cells #[.slice lA nl lc] 22))
  have BFB := Lib.hid (show Blk (((w2.alloc (.map #[] 0)).alloc (.cells #[.map (some m)] 104)).alloc (.cells #[.slice lA nl lc] 22)) FB 104 #[.map (some m)] from (by
    have := (Blk.new (w2.alloc (.map #[] 0)) 104 #[.map (some m)]).alloc (.cells #[.slice lA nl lc] 22)
    rw [World.size_alloc, hm, hFB] at this
    exact this))
  have BMB := Lib.hid (show Blk (((w2.alloc (.map #[] 0)).alloc (.cells #[.map (some m)] 104)).alloc (.cells #[.slice lA nl lc] 22)) MB 22 #[.slice lA nl lc] from (by
    have := Blk.new ((w2.alloc (.map #[] 0)).alloc (.cells #[.map (some m)] 104)) 22 #[.slice lA nl lc]
    rw [World.size_alloc, World.size_alloc, hm, show m + 1 + 1 = MB by omega] at this
    exact this))
  have MM := Lib.hid (show MapTo iv iEq (((w2.alloc (.map #[] 0)).alloc (.cells #[.map (some m)] 104)).alloc (.cells #[.slice lA nl lc] 22)) m (fun q => (firstG [] q).map fun i : Nat => Value.int .i64 (i : Int)) from (by
    have := (((MapTo.made (kv := iv) (eq := iEq) w2).keep ((Keeps.refl _).alloc (.cells #[.map (some m)] 104))).keep ((Keeps.refl _).alloc (.cells #[.slice lA nl lc] 22)))
    rw [hm] at this
    exact this))
  have e2 : m + 1 + 1 = MB := by omega
  simp only [hm]
  simp only [e2]
  simp only [hFB]
  generalize ((w2.alloc (.map #[] 0)).alloc (.cells #[.map (some m)] 104)).alloc (.cells #[.slice lA nl lc] 22) = w5 at *
  clear hm hFB hMB e2
  refine (wpIn_wide (n := 3)).1 ?_
  refine range_seqO (n := 3) (gf := 88) (lb := #[.pointer (some ⟨MB, 0, none⟩)]) (by omega) rfl (enters_of Tryz.func88 (by kernel_rfl) rfl)
    (back88 l lA nl lc MB w5 (HH.out.hl.keep K3.out) (Lib.hid HH.out.hnl) HH.out.nl9 BMB.out) (fun _ => rfl)
    (fun _ _ _ _ _ => trivial) (fun _ _ _ _ _ _ _ _ => trivial) (fun _ _ _ _ h => h.elim)
    (FiI w m FB) (FiI.abide K3.out.size (by have := HNUM.out; omega)) (fun k => k = m) (fun k hk => by have := HNUM.out; omega) ?kp ⟨fun k => Iff.rfl, MM.out, BFB.out, K3.out, HNUM.out.1⟩
    72 (fun p : Scn × Nat => #[.int .i64 p.1.op, .int .i64 p.1.off, .int .i64 p.1.er]) (fun p B => { tmps := #[.slice lA nl lc, .slice tA n tc, undef, undef, .slice none 0 0, .pointer (some ⟨FB, 0, none⟩), .int .i64 (p.2 : Int), .pointer (some ⟨B, 0, none⟩), undef, undef, undef, undef, undef, undef, undef, .slice lA nl lc, .bool true, .bool false, .bool false, .slice tA n tc, .bool true, .bool false, .bool false, .map (some m), .slice lA nl lc, .func (.func 88) #[] #[.pointer (some ⟨MB, 0, none⟩)], .int .i64 (p.2 : Int), scA p.1, undef, undef, undef, undef, undef, undef, undef, undef, undef, undef, undef, undef, undef, undef, undef, undef, undef, undef, undef, undef, undef, undef, undef, undef, undef, undef, undef, undef, undef, undef, undef, undef, undef, undef, undef, undef, undef, undef, undef, undef, undef, undef, undef, undef, undef, undef, undef, undef, undef, undef, undef, undef, undef, undef, undef, undef, undef, undef, undef, undef, undef], defers := [] })
    ?assign ?body ?done
  case kp =>
    rintro k ⟨h1, h2⟩ rfl
    rcases h2 with h2 | ⟨h2, off, h3⟩
    · have := HNUM.out; omega
    · obtain ⟨y, hy⟩ := List.exists_mem_of_ne_nil _ h2
      obtain ⟨j, hj⟩ := List.mem_iff_getElem?.1 hy
      obtain ⟨b, o, e, hb, _⟩ := HH.out.hl j y hj
      rw [h3] at e
      cases e
      have := HNUM.out
      omega
  case assign =>
    intro lo md x W K hK
    gi_wp2
    exact hK
  case body =>
    rintro lo md pre own ⟨⟨po, pf, pe⟩, i⟩ B W ⟨hown, hmap, hblk, hlow, hnew⟩ hob - - - hB0 hBB
    have c1 := hBB.cell 1
    have c0 := hblk.cell 0
    obtain ⟨W', hput, hm2, hg2⟩ := MapTo.put (intKeys Tryz.underlying3) beq_iff Tryz.underlying104 hmap pf (.int .i64 (i : Int))
    have HG2 := Lib.hid hg2
    have HM2 := Lib.hid hm2
    have HBLK := Lib.hid hblk
    have HOWN := Lib.hid hown
    have HLOW := Lib.hid hlow
    have HNEW := Lib.hid hnew
    have HMLT := Lib.hid hmap.lt
    have HBLT := Lib.hid hBB.lt
    have HAT := Lib.hid (show FB ≠ m from fun e => blk_not_map hblk (by rw [e]; exact hmap.at_))
    clear hm2 hg2 hown hmap hblk hlow hnew hBB
    gi_wp2
    refine ⟨own, ⟨HOWN.out, HM2.out.congr (fun q => ?_), HBLK.out.grown HG2.out (fun e => HAT.out (Option.some.inj e)), grown_keeps HLOW.out HG2.out (fun k e => by cases e; exact HNEW.out), HNEW.out⟩, HG2.out.size, fun k h1 h2 => HG2.out.block k (Nat.lt_trans h1 HBLT.out) (fun e => h2 ((HOWN.out k).2 (Option.some.inj e))), fun k h1 => ⟨.inl h1, ?_⟩⟩
    · rw [firstG_snoc]
      by_cases e : q = pf <;> simp [e]
    · have e3 := (HOWN.out k).1 h1
      subst e3
      exact Nat.lt_of_lt_of_le HMLT.out HG2.out.size
  case done =>
    rintro D xs own W hD hnD rfl ⟨hown, hmap, hblk, hlow, hnew⟩ hKD
    have HGL := Lib.hid (show ∀ q i, firstG (revEnum l) q = some i → i < nl from fun q i h => by
      obtain ⟨p, hp, rfl⟩ := firstG_lt _ _ _ h
      unfold revEnum at hp
      have := List.mem_zipIdx (List.mem_reverse.1 hp)
      have h2 := HH.out.hnl
      omega)
    have HPOST := Lib.hid (show ∀ e w', RecsPost l ts n w e w' ↔ RecsPost l ts n w e w' from fun _ _ => Iff.rfl)
    obtain ⟨g, hg⟩ : ∃ g, firstG (revEnum l) = g := ⟨_, rfl⟩
    have HG := Lib.hid hg
    rw [hg] at hmap HGL
    clear hg
    obtain ⟨LB, hLB⟩ : ∃ LB, W.heap.size = LB := ⟨_, rfl⟩
    obtain ⟨M2, hM2⟩ : ∃ M2, LB + 1 = M2 := ⟨_, rfl⟩
    have HDLT := Lib.hid (show D < LB from by rw [← hLB]; exact (Array.getElem?_eq_some_iff.1 hKD).1)
    have HM2 := Lib.hid (show w.heap.size ≤ LB ∧ m < LB ∧ FB < LB ∧ LB + 1 = M2 ∧ ((W.alloc (.cells #[.slice none 0 0] 23)).alloc (.cells #[.slice tA n tc] 47)).heap.size = LB + 2 ∧ w5.heap.size ≤ D from ⟨by rw [← hLB]; exact hlow.size, by rw [← hLB]; exact hmap.lt, by rw [← hLB]; exact hblk.lt, hM2, by simp; omega, hD⟩)
    have K6 := Lib.hid ((hlow.alloc (.cells #[.slice none 0 0] 23)).alloc (.cells #[.slice tA n tc] 47))
    have k6 := ((Keeps.refl W).alloc (.cells #[.slice none 0 0] 23)).alloc (.cells #[.slice tA n tc] 47)
    have MAP6 := Lib.hid (hmap.keep k6)
    have BFB6 := Lib.hid (hblk.below k6 hblk.lt)
    have D6 := Lib.hid ((k6.block D (Array.getElem?_eq_some_iff.1 hKD).1).trans hKD)
    have BLB6 := Lib.hid (show Blk ((W.alloc (.cells #[.slice none 0 0] 23)).alloc (.cells #[.slice tA n tc] 47)) LB 23 #[.slice none 0 0] from (by
      have := (Blk.new W 23 #[.slice none 0 0]).alloc (.cells #[.slice tA n tc] 47)
      rw [hLB] at this
      exact this))
    have BM26 := Lib.hid (show Blk ((W.alloc (.cells #[.slice none 0 0] 23)).alloc (.cells #[.slice tA n tc] 47)) M2 47 #[.slice tA n tc] from (by
      have := Blk.new (W.alloc (.cells #[.slice none 0 0] 23)) 47 #[.slice tA n tc]
      rw [World.size_alloc, hLB, hM2] at this
      exact this))
    clear hown hmap hblk hlow hnew hKD hD hnD k6
    go_wp2_with (go_at_call 37; (with_reducible refine (obsv37 _ _ _ _).mono ?_); rintro e w6' ⟨rfl, rfl⟩)
    (try simp only [World.size_alloc, hLB])
    (try simp only [hM2])
    generalize (W.alloc (.cells #[.slice none 0 0] 23)).alloc (.cells #[.slice tA n tc] 47) = w6 at *
    clear hLB hM2
    refine (wpIn_wide (n := 3)).1 ?_
    refine range_seqO (n := 3) (gf := 89) (lb := #[.pointer (some ⟨M2, 0, none⟩)]) (by omega) rfl (enters_of Tryz.func89 (by kernel_rfl) rfl)
      (obs89 ts tA n tc M2 w.heap.size w6 (HH.out.hT.below K6.out) (fun t ht => ⟨(HH.out.ok t ht).st.below K6.out, (HH.out.ok t ht).si.below K6.out, (HH.out.ok t ht).lb.below K6.out, (HH.out.ok t ht).se.below K6.out⟩) K6.out.size (Lib.hid HH.out.hn) HH.out.n9 HH.out.wf HH.out.st HH.out.si BM26.out) (fun _ => rfl)
      (fun x X Y hx hk => RecIn.keep hx hk) (fun x X l o o' hx ho hc => recIn_put hx ho hc) (fun x X k hx hk => giv_cells hx hk)
      (ReI w m FB LB D w6.heap.size nl g) (ReI.abide K6.out.size (by have := HM2.out; omega) (by have := HM2.out; omega) (by have := HM2.out; omega) (by have := HM2.out; have := HDLT.out; omega)) (fun k => k = LB) (fun k hk => by have := HM2.out; omega) (fun k hk e => by
        rcases hk with hk | hk
        · have := HM2.out; omega
        · have := HM2.out; omega)
      ⟨K6.out, MAP6.out, BFB6.out, D6.out, rfl, none, 0, [], BLB6.out, World.ownsRow_nil _ _ _ _, fun k hk => by simp [Value.ownBlock] at hk, rfl, fun x hx => by simp at hx⟩
      112 (fun x : Obs => #[.int .i64 0, .int .i64 0, .int .i64 x.ob.ki, .int .i64 x.ob.ti, .string x.ob.lab, .slice x.A x.ob.con.length x.c, .int .i64 x.ob.off]) (fun x B => { tmps := #[.slice lA nl lc, .slice tA n tc, undef, undef, .slice none 0 0, .pointer (some ⟨FB, 0, none⟩), undef, undef, .pointer (some ⟨LB, 0, none⟩), .pointer (some ⟨B, 0, none⟩), undef, undef, undef, undef, undef, .slice lA nl lc, .bool true, .bool false, .bool false, .slice tA n tc, .bool true, .bool false, .bool false, .map (some m), .slice lA nl lc, .func (.func 88) #[] #[.pointer (some ⟨MB, 0, none⟩)], undef, undef, undef, undef, undef, undef, .slice tA n tc, .func (.func 89) #[] #[.pointer (some ⟨M2, 0, none⟩)], .agg #[.int .i64 0, .int .i64 0, .int .i64 x.ob.ki, .int .i64 x.ob.ti, .string x.ob.lab, .slice x.A x.ob.con.length x.c, .int .i64 x.ob.off], undef, undef, undef, undef, undef, undef, undef, undef, undef, undef, undef, undef, undef, undef, undef, undef, undef, undef, undef, undef, undef, undef, undef, undef, undef, undef, undef, undef, undef, undef, undef, undef, undef, undef, undef, undef, undef, undef, undef, undef, undef, undef, undef, undef, undef, undef, undef, undef, undef, undef, undef, undef, undef, undef], defers := [] })
      ?assign2 ?body2 ?done2
    case assign2 =>
      intro lo md x W K hK
      obtain ⟨⟨xo, xk, xt, xl, xc⟩, xA, xz⟩ := x
      simp only [encO] at hK ⊢
      gi_wp2
      exact hK
    case body2 =>
      rintro lo md pre own x B W hI hob hPr hgi hT hZB hBB
      have HI := Lib.hid hI
      have HOB := Lib.hid hob
      have HPR := Lib.hid hPr
      have HGI := Lib.hid hgi
      have HBB := Lib.hid hBB
      have HZB := Lib.hid hZB
      obtain ⟨A, c, L, b1, b2, b3, b4, b5⟩ := hI.lst
      have HL1 := Lib.hid b1; have HL2 := Lib.hid b2; have HL3 := Lib.hid b3; have HL4 := Lib.hid b4; have HL5 := Lib.hid b5
      have hLL : L.length ≤ 100000 := by
        obtain ⟨r, hr⟩ := hT
        have h1 := congrArg List.length b4
        have h2 := congrArg List.length hr
        have h3 := HH.out.ob
        have h4 : (keptO g (pre.map Obs.ob)).length ≤ (pre.map Obs.ob).length := List.length_filter_le _ _
        simp only [List.length_map, List.length_append, List.length_cons, List.length_nil] at h1 h2 h4
        omega
      have hlk := MapTo.look (intKeys Tryz.underlying3) Tryz.underlying104 true hI.map (.int .i64 0) (by kernel_rfl) x.ob.off
      simp only [if_pos] at hlk
      have x6 := hBB.cell 6
      have x3 := hBB.cell 3
      have cFB := hI.blk.cell 0
      cases hgo : g x.ob.off with
      | none =>
        rw [hgo] at hlk
        simp only [Option.map_none, Option.getD_none, Option.isSome_none] at hlk
        have HEND := Lib.hid (HI.out.skip x (by rw [hgo]; rfl))
        clear hI hob hPr hgi hBB b1 b2 b3 b4 b5 hT hgo
        generalize x.ob.con.length = xq at *
        gi_wp2
        exact ⟨own, HEND.out, Nat.le_refl _, fun _ _ _ => rfl, fun k hk => ⟨.inl hk, Nat.lt_trans (HOB.out k hk) HBB.out.lt⟩⟩
      | some i =>
        rw [hgo] at hlk
        simp only [Option.map_some, Option.getD_some, Option.isSome_some] at hlk
        by_cases hti : x.ob.ti ≤ 1000000
        case neg =>
          have ht1 : (1000000 : Int) < x.ob.ti := by omega
          have HEND := Lib.hid (HI.out.skip x (by rw [hgo]; simp [hti]))
          clear hI hob hPr hgi hBB b1 b2 b3 b4 b5 hT hgo hti
          gi_wp2
          exact ⟨own, HEND.out, Nat.le_refl _, fun _ _ _ => rfl, fun k hk => ⟨.inl hk, Nat.lt_trans (HOB.out k hk) HBB.out.lt⟩⟩
        have ht1 : ¬ (1000000 : Int) < x.ob.ti := by omega
        have ht2 : decide ((1000000 : Int) < x.ob.ti) = false := by simp; omega
        have hneB : LB ≠ B := by have := HM2.out; omega
        have hB1 := hBB.set_ 0 (.int .i64 (i : Int))
        have x0 := hBB.cell 0
        have f0 := hBB.frozen 0
        have z0 := hB1.cell 0; have z1 := hB1.cell 1; have z2 := hB1.cell 2; have z3 := hB1.cell 3; have z4 := hB1.cell 4; have z5 := hB1.cell 5
        simp at z0 z1 z2 z3 z4 z5
        have y8 := (b1.far hneB (p := ⟨B, 0, none⟩) (.int .i64 (i : Int))).cell 0
        (try simp at y8)
        obtain ⟨i0, zz, hi0, hz0, hz1, hz2, hz3⟩ := rcOk.info
        have on1 : (W.setCell ⟨B, 0, none⟩ (.int .i64 (i : Int))).ownsRow w6.heap.size 26 6 (.slice A L.length c) L.length (recCells rcR L) := b2.kept (grownBy_cell W ⟨B, 0, none⟩ _) (by
          cases hv : (Value.slice A L.length c).ownBlock with
          | none => exact .inl rfl
          | some k => exact .inr (fun e => by have h3 := hob k (b3 k hv); have h4 : k = B := Option.some.inj e; omega))
        have on := on1.alloc (.cells #[.int .i64 (i : Int), .int .i64 0, .int .i64 x.ob.ki, .int .i64 x.ob.ti, .string x.ob.lab, .slice x.A x.ob.con.length x.c] 26)
        have ON := Lib.hid on
        have c1 := Lib.hid (World.news_of_block (w := (W.setCell ⟨B, 0, none⟩ (.int .i64 (i : Int))).alloc (.cells #[.int .i64 (i : Int), .int .i64 0, .int .i64 x.ob.ki, .int .i64 x.ob.ti, .string x.ob.lab, .slice x.A x.ob.con.length x.c] 26)) (B := W.heap.size) (cs := #[.int .i64 (i : Int), .int .i64 0, .int .i64 x.ob.ki, .int .i64 x.ob.ti, .string x.ob.lab, .slice x.A x.ob.con.length x.c]) (t := 26) (fr := (0, 0)) (by
          have := heap_alloc_new (W.setCell ⟨B, 0, none⟩ (.int .i64 (i : Int))) (.cells #[.int .i64 (i : Int), .int .i64 0, .int .i64 x.ob.ki, .int .i64 x.ob.ti, .string x.ob.lab, .slice x.A x.ob.con.length x.c] 26)
          rwa [show (W.setCell ⟨B, 0, none⟩ (.int .i64 (i : Int))).heap.size = W.heap.size from by simp] at this))
        have c2 := Lib.hid (show ∀ u ∈ [Value.int .i64 (i : Int), .int .i64 0, .int .i64 x.ob.ki, .int .i64 x.ob.ti, .string x.ob.lab, .slice x.A x.ob.con.length x.c], u.oneCell' = true by simp [Value.oneCell'])
        have c3 : L.length + 1 ≤ maxLen := by unfold maxLen; omega
        have c4 : (L.length + 1) * rcR.by' ≤ 140737488355328 := by
          have := Nat.mul_le_mul (show L.length + 1 ≤ 100001 by omega) rcOk.few
          omega
        have C5 := Lib.hid (show w6.heap.size ≤ ((W.setCell ⟨B, 0, none⟩ (.int .i64 (i : Int))).alloc (.cells #[.int .i64 (i : Int), .int .i64 0, .int .i64 x.ob.ki, .int .i64 x.ob.ti, .string x.ob.lab, .slice x.A x.ob.con.length x.c] 26)).heap.size by have := hBB.lt; simp; omega)
        have BL2 := Lib.hid ((b1.far hneB (p := ⟨B, 0, none⟩) (.int .i64 (i : Int))).alloc (.cells #[.int .i64 (i : Int), .int .i64 0, .int .i64 x.ob.ki, .int .i64 x.ob.ti, .string x.ob.lab, .slice x.A x.ob.con.length x.c] 26))
        have NLB := Lib.hid (show ∀ k, (Value.slice A L.length c).ownBlock = some k → w6.heap.size ≤ k from fun k hk => (own_lt b2 hk).1)
        have HTI := Lib.hid hti
        have HGO := Lib.hid hgo
        have HIL := Lib.hid (HGL.out _ _ hgo)
        have TK := Lib.hid (fun (n5 c5 : Nat) (A5 : Option Addr) (W5 : World) => ReI.take (W5 := W5) (A5 := A5) (n5 := n5) (c5 := c5) (R := ⟨(i : Int), 0, x.ob.ki, x.ob.ti, x.ob.lab, x.ob.con, x.A, x.c⟩) HI.out x K6.out.size (by have := HM2.out; omega) (by have := HM2.out; omega) (by have := HM2.out; have := HDLT.out; omega) (by have := HM2.out; omega) HM2.out.1 (by have := HM2.out; omega) (by have := HM2.out; omega) (by have := HM2.out; have := HDLT.out; omega) HZB.out HBB.out.lt HOB.out HGI.out HL1.out HL2.out HL3.out HL4.out HL5.out HPR.out rfl HGO.out HTI.out HIL.out _ rfl)
        have hLBw : LB < w6.heap.size := by have := HM2.out; omega
        clear hI hob hPr hgi hBB b1 b2 b3 b4 b5 hT hgo hB1 on1 on hti
        gi_wp2_with (gi_at_builtin; refine wpListIn_append_own_at _ rfl (.tmp 53) (.tmp 56) 23 rfl w6.heap.size 26 i0 zz 6 rcR.by' Tryz.underlying23 hi0 hz0 hz1 hz2 hz3 (by decide) _ _ _ rfl ON.out ⟨W.heap.size, 0, none⟩ 1 1 [.int .i64 (i : Int), .int .i64 0, .int .i64 x.ob.ki, .int .i64 x.ob.ti, .string x.ob.lab, .slice x.A x.ob.con.length x.c] rfl rfl c1.out c2.out c3 c4 C5.out ?_; intro v' W5 hown5 hgrow _ hat; obtain ⟨A5, c5, rfl⟩ := own_slice hown5; have h85 := BL2.out.grown hgrow (fun e => by have h3 := NLB.out LB e.symm; omega); have w8 := h85.cell 0; have f8 := h85.frozen 0; have HO5 := Lib.hid hown5; have HG5 := Lib.hid hgrow; have HA5 := Lib.hid hat; clear hown5 hgrow hat h85)
        exact TK.out _ _ _ _ (by rw [recCells_append, recCells_one]; exact HO5.out) (by simp) HG5.out (HA5.out.imp id (fun h => h))
    case done2 =>
      rintro D2 xs own W hD2 hnD2 hxs hI hKD2
      have HI := Lib.hid hI
      have HKD2 := Lib.hid hKD2
      have HD2 := Lib.hid hD2
      obtain ⟨A, c, L, b1, b2, b3, b4, b5⟩ := hI.lst
      rw [hxs] at b4
      have hLL : L.length ≤ 100000 := by
        have h1 := congrArg List.length b4
        have h3 := HH.out.ob
        have h4 : (keptO g (obsO ts n n)).length ≤ (obsO ts n n).length := List.length_filter_le _ _
        simp only [List.length_map] at h1
        omega
      have hO : OwnR rcR w W (.slice A L.length c) L := ⟨ownsRow_base b2 (by have := K6.out.size; omega), HI.out.low⟩
      have HO := Lib.hid hO
      have HOB := Lib.hid (show ∀ k, (Value.slice A L.length c).ownBlock = some k → w6.heap.size ≤ k ∧ k < W.heap.size ∧ own k from fun k hk => ⟨(own_lt b2 hk).1, (own_lt b2 hk).2, b3 k hk⟩)
      have HOR := Lib.hid (order38 L A L.length c w W hO (by omega))
      have HB1 := Lib.hid b1; have HB4 := Lib.hid b4; have HB5 := Lib.hid b5
      have y8 := b1.cell 0
      obtain ⟨q, hq⟩ : ∃ q, L.length = q := ⟨_, rfl⟩
      have HQ := Lib.hid hq
      rw [hq] at y8 HOR
      clear hI hKD2 hD2 hxs b1 b2 b3 b4 b5 hO hq
      have HLBN := Lib.hid (show (Value.slice A q c).ownBlock ≠ some LB ∧ (Value.slice A q c).ownBlock ≠ some D ∧ (Value.slice A q c).ownBlock ≠ some D2 from by
        have h := HOB.out
        rw [HQ.out] at h
        exact ⟨fun e => by have := h LB e; have := HM2.out; omega, fun e => by have := h D e; have := HM2.out; have := HDLT.out; omega, fun e => hnD2 (h D2 e).2.2⟩)
      go_upto_region 16 with (go_at_call 38; (with_reducible refine HOR.out.mono ?_); rintro e w7 ⟨rfl, hg7, L7, hO7, hm7, hs7⟩; have HG7 := Lib.hid hg7; have HO7 := Lib.hid hO7; have HM7 := Lib.hid hm7; have HS7 := Lib.hid hs7; clear hg7 hO7 hm7 hs7)
      clear y8
      have hq7 := own_lenR HO7.out
      have HQ7 := Lib.hid hq7
      obtain ⟨W9, hmks, hO9⟩ := make_run w7 nl (by have := HH.out.nl9; omega)
      have BL7 := Lib.hid (show Blk w7 LB 23 #[.slice A q c] from by
        have h := HB1.out
        rw [HQ.out] at h
        exact h.grown HG7.out (fun e => HLBN.out.1 e.symm))
      have CON7 := Lib.hid (show ∀ x ∈ L, RecIn strR w7 w7.heap.size x.A x.con ∧ (x.con ≠ [] → ∀ k off, x.A = some ⟨k, off, none⟩ → (Value.slice A q c).ownBlock ≠ some k) ∧ ∃ i : Nat, x.sc = (i : Int) ∧ i < nl from fun x hx => by
        obtain ⟨d1, d2, d3⟩ := HB5.out x hx
        rw [HQ.out] at d2
        refine ⟨recIn_off d1 HG7.out.size (fun hne k off e => ?_), fun hne k off e => (d2 hne k off e).2.2, d3⟩
        obtain ⟨z, hz⟩ := List.exists_mem_of_ne_nil _ hne
        obtain ⟨j, hj⟩ := List.mem_iff_getElem?.1 hz
        obtain ⟨b, of2, e3, hb, hc⟩ := d1 j z hj
        rw [e] at e3; cases e3
        exact HG7.out.block k hb (fun e4 => (d2 hne k off e).2.2 e4.symm))
      have MK7 := Lib.hid (show w7.heap[D]? = some (.deferred (some [])) ∧ w7.heap[D2]? = some (.deferred (some [])) from ⟨(HG7.out.block D (Array.getElem?_eq_some_iff.1 HI.out.dfd).1 (fun e => HLBN.out.2.1 e.symm)).trans HI.out.dfd, (HG7.out.block D2 (Array.getElem?_eq_some_iff.1 HKD2.out).1 (fun e => HLBN.out.2.2 e.symm)).trans HKD2.out⟩)
      have y9 := cell_keep (BL7.out.cell 0) hO9.2
      have N0 := Lib.hid (show NuI w w7 A c w7.heap.size nl L7 L7 (List.replicate nl 0) W9 from ⟨by rw [← HQ7.out]; exact HO7.out.keep hO9.2, ⟨ownsRow_base hO9.1 HO7.out.2.size, HO7.out.2.trans hO9.2⟩, rfl, by simp, fun k hk _ => hO9.2.block k hk, hO9.2.size⟩)
      have HGB := Lib.hid (show ∀ k, (Value.slice A q c).ownBlock = some k → k < w7.heap.size from fun k hk => by
        have h := HOB.out
        rw [HQ.out] at h
        exact Nat.lt_of_lt_of_le (h k hk).2.1 HG7.out.size)
      obtain ⟨CB, hCB⟩ : ∃ CB, w7.heap.size = CB := ⟨_, rfl⟩
      have HCB := Lib.hid hCB
      rw [hCB] at N0 hmks HGB
      clear hO9 hq7 hCB
      go_wp2_with fail
      clear hmks y9
      go_loopw [65] (fun i wx => ∃ (k : Nat) (L8 : List Rec) (cs : List Int), k ≤ q ∧ i = .int .i64 (k : Int) ∧ NuI w w7 A c CB nl L7 L8 cs wx) (fun i _ => q - (intOf i).toNat)
      case atStart => exact ⟨0, _, _, by omega, rfl, N0.out⟩
      case round =>
        clear N0
        obtain ⟨k, L8, cs, hk, rfl, hN⟩ := hrel
        have HN := Lib.hid hN
        have hz8 : L8.length = q := by have := congrArg List.length hN.l1; simp only [List.length_map] at this; have := HQ7.out; omega
        have yL := (show Blk wr LB 23 #[.slice A q c] from (hN.sm LB BL7.out.lt (by rw [← HQ7.out]; exact HLBN.out.1)).trans BL7.out).cell 0
        by_cases hkq : k < q
        · obtain ⟨x, hx⟩ : ∃ x, L8[k]? = some x := ⟨_, List.getElem?_eq_getElem (by omega)⟩
          obtain ⟨gb, cap, e, hg1, hg2⟩ := hN.o1.form (by omega)
          injection e with e1 e2 e3
          subst e1
          have hgb : gb < CB := HGB.out gb rfl
          obtain ⟨s, hs, hsn⟩ : ∃ s : Nat, x.sc = (s : Int) ∧ s < nl := by
            have h1 : (L8.map z0)[k]? = some (z0 x) := by rw [List.getElem?_map, hx]; rfl
            rw [hN.l1] at h1
            rw [List.getElem?_map] at h1
            cases h2 : L7[k]? with
            | none => rw [h2] at h1; cases h1
            | some y =>
              rw [h2] at h1
              simp only [Option.map_some, Option.some.injEq] at h1
              obtain ⟨-, -, i, hi, hin⟩ := CON7.out y (HM7.out y (List.mem_of_getElem? h2))
              refine ⟨i, ?_, hin⟩
              have := congrArg Rec.sc h1
              simp only [z0] at this
              rw [← this]; exact hi
          obtain ⟨v, hv⟩ : ∃ v, cs[s]? = some v := ⟨_, List.getElem?_eq_getElem (by have := hN.l2; omega)⟩
          obtain ⟨b', o', e', hb', c0, c1, c2, c3, c4, c5⟩ := (hN.o1.recs rcOk).1.rc hx
          cases e'
          simp only [Nat.zero_add] at c0 c1
          have f1 := hN.o1.frozen (k * 6 + 1)
          have v0 := own_cellI hN.o2 hv
          rw [hs] at c0
          have kq : (k : Int) < (q : Int) := by omega
          have k0 : (0 : Int) ≤ (k : Int) := by omega
          have s0 : (0 : Int) ≤ (s : Int) := by omega
          have sn : (s : Int) < (nl : Int) := by omega
          have kw : IntKind.i64.wrap ((k : Int) + 1) = (k : Int) + 1 := wrap_in (by omega) (by have := HQ.out; omega)
          have N1 := Lib.hid ((HN.out.put1 hgb hx v).drew)
          have HV := Lib.hid hv
          have NCB := Lib.hid (show (Value.slice (some ⟨gb, 0, none⟩) L7.length c).ownBlock ≠ some CB from fun e => by
            have : gb = CB := by simpa [Value.ownBlock] using e
            omega)
          clear hN hx c2 c3 c4 c5 hg1 hg2 hv
          go_upto_region 21 with fail
          go_region
          generalize (wr.setCell ⟨gb, k * 6 + 1, none⟩ (.int .i64 v)).drew = X2 at *
          have v2 := own_cellI N1.out.o2 HV.out
          have f2 := N1.out.o2.frozen s
          clear v0 f1 c0 c1 yL
          go_wp2_with fail
          go_roundw
          case rel => exact ⟨k + 1, _, _, by omega, by go_num, N1.out.put2 (by rw [HCB.out]; exact Nat.le_refl _) NCB.out HV.out _⟩
          case measure => simp [intOf]; omega
        · obtain rfl : k = q := by omega
          have hkq' : ¬ ((k : Int) < (k : Int)) := by omega
          have MK8 := Lib.hid (show wr.heap[D]? = some (.deferred (some [])) ∧ wr.heap[D2]? = some (.deferred (some [])) from ⟨(hN.sm D (Array.getElem?_eq_some_iff.1 MK7.out.1).1 (by rw [← HQ7.out]; exact HLBN.out.2.1)).trans MK7.out.1, (hN.sm D2 (Array.getElem?_eq_some_iff.1 MK7.out.2).1 (by rw [← HQ7.out]; exact HLBN.out.2.2)).trans MK7.out.2⟩)
          have hDD : D ≠ D2 := by have := HM2.out; have := HDLT.out; have := HD2.out; omega
          have HDD := Lib.hid hDD
          clear hN hz8 hDD
          go_wp2_with fail
          refine ⟨by simp, .inl ⟨_, _, rfl, run_takeDeferred (by exact MK8.out.2), ?_⟩⟩
          refine ⟨by simp, .inl ⟨_, _, rfl, run_takeDeferred (by rw [World.putObj_heap_other HDD.out]; exact MK8.out.1), ?_⟩⟩
          refine ⟨_, results_tmp rfl _ _ _, ?_⟩
          have hz0 : L8.map z0 = L7.map z0 := HN.out.l1
          have hmem : ∀ x ∈ L8, ∃ y ∈ L7, z0 x = z0 y := fun x hx => by
            have : z0 x ∈ L7.map z0 := by rw [← hz0]; exact List.mem_map_of_mem hx
            obtain ⟨y, hy, e⟩ := List.mem_map.1 this
            exact ⟨y, hy, e.symm⟩
          have hwD : w.heap.size ≤ D ∧ w.heap.size ≤ D2 := by have := HM2.out; have := HD2.out; have := K3.out.size; have := HNUM.out; omega
          have hg1 := grownBy_putObj' wr D2 (.deferred none)
          have hg2 := grownBy_putObj' (wr.putObj D2 (.deferred none)) D (.deferred none)
          have hown := HN.out.o1.1
          rw [← HQ7.out] at hown
          have ho2 : ((wr.putObj D2 (.deferred none)).putObj D (.deferred none)).ownsRow w.heap.size 26 6 (.slice A k c) L8.length (recCells rcR L8) := (hown.kept hg1 (.inr HLBN.out.2.2)).kept hg2 (.inr HLBN.out.2.1)
          refine ⟨A, k, c, L8, L, rfl, ⟨ho2, grown_keeps (grown_keeps HN.out.o1.2 hg1 (fun i e => by cases e; exact hwD.2)) hg2 (fun i e => by cases e; exact hwD.1)⟩, fun x hx => ?_, ?_, fun x hx => ?_, fun hlt => ?_⟩
          · obtain ⟨y, hy, e⟩ := hmem x hx
            have eA := congrArg Rec.A e
            have eC := congrArg Rec.con e
            simp only [z0] at eA eC
            obtain ⟨d1, d2, -⟩ := CON7.out y (HM7.out y hy)
            rw [eA, eC]
            have r1 : RecIn strR wr wr.heap.size y.A y.con := recIn_off d1 HN.out.sz (fun hne k2 off e2 => by
              obtain ⟨z, hz⟩ := List.exists_mem_of_ne_nil _ hne
              obtain ⟨j, hj⟩ := List.mem_iff_getElem?.1 hz
              obtain ⟨b, of2, e3, hb, hc⟩ := d1 j z hj
              rw [e2] at e3; cases e3
              exact HN.out.sm k2 hb (by rw [← HQ7.out]; exact d2 hne k2 off e2))
            have r2 := recIn_put (x := ⟨⟨0, 0, 0, ByteArray.empty, y.con⟩, y.A, y.c⟩) (X := wr) (o' := .deferred none) r1 MK8.out.2 rfl
            have r3 := recIn_put (x := ⟨⟨0, 0, 0, ByteArray.empty, y.con⟩, y.A, y.c⟩) (X := wr.putObj D2 (.deferred none)) (o' := .deferred none) r2 (by rw [World.putObj_heap_other HDD.out]; exact MK8.out.1) rfl
            exact r3
          · rw [HG.out]; exact HB4.out
          · obtain ⟨y, hy, e⟩ := hmem x hx
            exact ⟨y, HM7.out y hy, by have := congrArg Rec.v e; exact this⟩
          · have h7 := HS7.out hlt
            have h8 := congrArg (List.map Rec.v) hz0
            rw [List.map_map, List.map_map] at h8
            rw [← h7]
            exact h8
theorem stopO_len (ts : List Trk) (n i : Nat) (t : Trk) (j : Nat) (s : Stp) : (stopO ts n i t j s).length ≤ 3 := by
  unfold stopO
  split
  · simp
  · split
    · simp
    · split <;> simp
theorem rowO_len (ts : List Trk) (n i : Nat) (t : Trk) : ∀ j, (rowO ts n i t j).length ≤ 3 * j := by
  intro j
  induction j with
  | zero => simp [rowO]
  | succ j ih =>
    cases h : t.st[j]? with
    | none => simp only [rowO, h, List.append_nil]; omega
    | some s => rw [rowO_succ h, List.length_append]; have := stopO_len ts n i t j s; omega
theorem obsO_len {ts : List Trk} (n M : Nat) (hM : ∀ t ∈ ts, t.st.length ≤ M) : ∀ k, (obsO ts n k).length ≤ k * (3 * M) := by
  intro k
  induction k with
  | zero => simp [obsO]
  | succ k ih =>
    rw [Nat.succ_mul]
    cases h : ts[k]? with
    | none => simp only [obsO, h, List.append_nil]; omega
    | some t =>
      rw [obsO_succ h, List.length_append]
      have h1 := rowO_len ts n k t t.st.length
      have h2 := hM t (List.mem_of_getElem? h)
      omega
theorem wellF_wf {ts : List Trk} (h : wellF ts = true) : ∀ t ∈ ts, WfT t := by
  unfold wellF at h
  simp only [Bool.and_eq_true, Bool.not_eq_true'] at h
  intro t ht
  refine WfT.of ?_
  cases hb : badW t with
  | false => rfl
  | true =>
    have : ts.any badW = true := List.any_eq_true.2 ⟨t, ht, hb⟩
    rw [h.2] at this; cases this
/-- What Records answers. -/
def RecsEnd (l : List Scn) (ts : List Trk) (n : Nat) (w : World) (e : Ending) (w' : World) : Prop :=
  (e = .returned (.slice none 0 0) ∧ Keeps w w' ∧ ¬ (scannersF l = true ∧ wellF ts = true)) ∨ (scannersF l = true ∧ wellF ts = true ∧ RecsPost l ts n w e w')
set_option maxHeartbeats 4000000 in
theorem records17 (l : List Scn) (ts : List Trk) (lA tA : Option Addr) (nl lc n tc : Nat) (w : World) (hl : RecIn scR w w.heap.size lA l) (hnl : Hid (nl = l.length)) (nl9 : nl ≤ 1000) (hT : RecIn tkR w w.heap.size tA ts) (hn : Hid (n = ts.length)) (n9 : n ≤ 8)
    (ok : TrksOk w w.heap.size ts) (hst : ∀ t ∈ ts, t.st.length ≤ 20) : Calls Tryz.prog 17 #[.slice lA nl lc, .slice tA n tc] w (RecsEnd l ts n w) := by
  have H34 := Lib.hid (fun X (hX : Keeps w X) => scanners34 l lA nl lc X (hl.keep hX) hnl (by omega))
  have H35 := Lib.hid (fun X (hX : Keeps w X) => well35 ts tA n tc X (hT.keep hX) (ok.keep hX) hn (by omega))
  obtain ⟨q1, h1⟩ : ∃ q, scannersF l = q := ⟨_, rfl⟩
  obtain ⟨q2, h2⟩ : ∃ q, wellF ts = q := ⟨_, rfl⟩
  cases q1
  · rw [h1] at H34
    have HE := Lib.hid (show ¬ (scannersF l = true ∧ wellF ts = true) from fun h => by rw [h1] at h; cases h.1)
    clear hl hT ok hst h1 h2 H35
    go_enter Tryz.func17, Tryz.ntmps17
    go_wp2_with (go_at_call 34; (with_reducible refine (H34.out _ (Keeps.refl w)).mono ?_); rintro e w1 ⟨rfl, hk1⟩; have K1 := Lib.hid hk1; clear hk1)
    go_ret
    exact .inl ⟨rfl, K1.out, HE.out⟩
  · cases q2
    · rw [h1] at H34
      rw [h2] at H35
      have HE := Lib.hid (show ¬ (scannersF l = true ∧ wellF ts = true) from fun h => by rw [h2] at h; cases h.2)
      clear hl hT ok hst h1 h2
      go_enter Tryz.func17, Tryz.ntmps17
      go_wp2_with (first | (go_at_call 34; (with_reducible refine (H34.out _ (Keeps.refl w)).mono ?_); rintro e w1 ⟨rfl, hk1⟩; have K1 := Lib.hid hk1; clear hk1) | (go_at_call 35; (with_reducible refine (H35.out _ K1.out).mono ?_); rintro e w2 ⟨rfl, hk2⟩; have K2 := Lib.hid (K1.out.trans hk2); clear hk2))
      go_ret
      exact .inl ⟨rfl, K2.out, HE.out⟩
    · have hob : (obsO ts n n).length ≤ 100000 := by
        have := obsO_len n 20 hst n
        omega
      refine (recs_all l ts lA tA nl lc n tc w ⟨hl, hnl.out, nl9, hT, hn.out, by omega, ok.ok, wellF_wf h2, ok.st, ok.si, hob⟩ (fun X hX => ?_) (fun X hX => ?_)).mono (fun e w' h => .inr ⟨h1, h2, h⟩)
      · have := H34.out X hX
        rwa [h1] at this
      · have := H35.out X hX
        rwa [h2] at this
end Go.Proofs.YthkmpegpmpdhaaaGreatDoor
