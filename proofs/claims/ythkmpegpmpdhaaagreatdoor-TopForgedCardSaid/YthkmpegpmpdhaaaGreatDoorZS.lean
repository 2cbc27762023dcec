/- Part of the proof of TopOwnItem. Conditions: as stated in each theorem. -/
import Derived.Test.YthkmpegpmpdhaaaGreatDoorZQ
import Derived.Test.YthkmpegpmpdhaaaGreatDoorZN
import Derived.Test.YthkmpegpmpdhaaaGreatDoorProg
import Derived.WalkMore
import Derived.Maps.OwnIn
import Derived.Deep.LoopGhost
import Derived.RangeFuncNested
import Derived.RangeFuncCalls
import Derived.RangeFuncLeaves
import Derived.RangeFuncWrites
import Derived.Shelf.Abstract
import Derived.Shelf.RegionOpen
import Derived.OwnWalkIn
import Derived.TacticsInMore
import Derived.LoopNIn
import Derived.LoopIn
import Derived.RangeFuncBound
import Derived.WalkKit
import Derived.WalkSpells
import Derived.WalkLawsBesides
import Derived.Laws.EntriesVeiled
import Derived.ProofKit
import Derived.OpenShut
import Derived.Lib.Hide
import Derived.BigQuiet
import Derived.Deep.QuietTactic
import Derived.Deep.CutRange
import Derived.StillTailTactics
import Derived.Lib.SliceRun
import Derived.RangeFuncRecord
import Derived.Carry
import Derived.ChangeKeysEq
import Derived.Below
import Derived.Laws.OwnMore
import Derived.Deep.AppendLies
import Derived.Deep.Draws
import Derived.Laws.Rows
import Derived.Maps.AppendAt
import Derived.RegionTactic
import Derived.OwnWalk
import Derived.Deep.RegionHeld3
namespace Go.Proofs.YthkmpegpmpdhaaaGreatDoor
open Go.Shelf Go.ChangeShapes Go.WideShapes Go.ChangeAt Go.RowKit
set_option linter.unusedSimpArgs false
set_option linter.unusedVariables false
section
open Go.RowKit
variable {F : Fence} {n : Nat} {P : Program}
/-- What is said abides new blocks, and turns of blocks from Z on that are no cells. -/
def Abide {β : Type} (Z : Nat) (J : β → World → Prop) : Prop := ∀ (pre : β) (A B : World) (row : Option Nat), J pre A → A.grownBy B row → (∀ r, row = some r → Z ≤ r ∧ ∃ o : Obj, A.heap[r]? = some o ∧ o.isCells = false) → J pre B
theorem Abide.alloc {β : Type} {Z : Nat} {J : β → World → Prop} (h : Abide Z J) {pre : β} {A : World} (o : Obj) (hj : J pre A) : J pre (A.alloc o) := h pre A _ none hj (World.grownBy_alloc A o none) (fun r e => by cases e)
theorem Abide.drew {β : Type} {Z : Nat} {J : β → World → Prop} (h : Abide Z J) {pre : β} {A : World} (hj : J pre A) : J pre A.drew := h pre A _ none hj ⟨rfl, rfl, rfl, Nat.le_refl _, fun _ _ _ => rfl⟩ (fun r e => by cases e)
theorem Abide.putObj {β : Type} {Z l : Nat} {J : β → World → Prop} (h : Abide Z J) {pre : β} {A : World} {o : Obj} (o' : Obj) (hj : J pre A) (hl : Z ≤ l) (ho : A.heap[l]? = some o) (hc : o.isCells = false) : J pre (A.putObj l o') :=
  h pre A _ (some l) hj (grownBy_putObj' A l o') (fun r e => by cases e; exact ⟨hl, o, ho, hc⟩)
/-- Blocks of the kind kp are as they were. -/
def KeepR (kp : Nat → Prop) (A B : World) : Prop := A.heap.size ≤ B.heap.size ∧ ∀ k, kp k → k < A.heap.size → B.heap[k]? = A.heap[k]?
theorem KeepR.trans {kp : Nat → Prop} {A B C : World} (h : KeepR kp A B) (k : KeepR kp B C) : KeepR kp A C := ⟨Nat.le_trans h.1 k.1, fun i h1 h2 => (k.2 i h1 (Nat.lt_of_lt_of_le h2 h.1)).trans (h.2 i h1 h2)⟩
/-- Blocks from Z on that are no cells are as they were. -/
def KeepN (Z : Nat) (A B : World) : Prop := ∀ (k : Nat) (o : Obj), Z ≤ k → A.heap[k]? = some o → o.isCells = false → B.heap[k]? = some o
/-- An iterator that writes nothing that it did not make, and hands over what Pr says. -/
def SeqQ {α : Type} (F : Fence) (n : Nat) (P : Program) (g : Nat) (lb : Array Value) (encs : α → Array Value) (kp : Nat → Prop) (Pr : α → Prop) (S : List α → Prop) (N : Nat) (w : World) : Prop :=
  ∀ (l : Nat) (J : List α → World → Prop) (W : World), Below w.heap.size w W → Abide W.heap.size J →
    (∀ pre x W1, J pre W1 → Pr x → pre.length < N → YieldAt F (n - 1) P l (encs x) W1 fun e W' => e = .returned (.bool true) ∧ J (pre ++ [x]) W' ∧ KeepR kp W1 W' ∧ KeepN W.heap.size W1 W') →
    J [] W →
    CallsIn F n P g (#[.func (.yield l) #[] #[]] ++ lb) W fun e W' => (∃ v, e = .returned v) ∧ ∃ xs, S xs ∧ J xs W'
/-- How a round is left: it goes on. -/
def seqRPost {α : Type} (B : Nat) (kp : Nat → Prop) (I : List α → World → Prop) (xs : List α) (W : World) : Exit → Act → World → Prop
  | .normal, _, W' => KeepsFrom B W W' ∧ KeepR kp W W' ∧ I xs W'
  | _, _, _ => False
theorem range_seqQ {α : Type} {g : Operand} {ps : Array Tmp} {assign body : Code} {Q : Exit → Act → World → Prop} {a : Act} {w : World}
    (hro : F.round = none) (h1 : 1 ≤ n) {gf : Nat} {lb : Array Value} (hg : a.eval g = .func (.func gf) #[] lb) (hFg : F.fn gf) (eg : ∀ args w, (callFunc gf args).run P w = .ok (.enter gf args) w)
    {encs : α → Array Value} {kp : Nat → Prop} {Pr : α → Prop} {S : List α → Prop} {N : Nat} (hseq : SeqQ F (n - 1) P gf lb encs kp Pr S N w) (hkp : ∀ k, kp k → k < w.heap.size) (hps : ∀ x, (encs x).size = ps.size)
    (I : List α → World → Prop) (hI : Abide w.heap.size I) (h0 : I [] w)
    (t : TypeId) (cs : α → Array Value) (a₁ : α → Nat → Act)
    (hassign : ∀ (l : Nat) (x : α) (W : World) (K : Act → World → Prop), K (a₁ x W.heap.size) (W.alloc (.cells (cs x) t)) →
      assign.wpIn (F.inRound l) (n - 1 - 1) P (Exit.then K (fun _ _ _ => False)) { tmps := (ps.zip (encs x)).foldl (fun t (p, v) => t.setIfInBounds p v) a.tmps, defers := [] } W)
    (hbody : ∀ (l : Nat) (pre : List α) (x : α) (B : Nat) (W : World), I pre W → Pr x → pre.length < N → w.heap.size ≤ B → W.heap[B]? = some (.cells (cs x) t (0, 0)) →
      body.wpIn (F.inRound l) (n - 1 - 1) P (seqRPost w.heap.size kp I (pre ++ [x]) W) (a₁ x B) W)
    (hdone : ∀ (D : Nat) (xs : List α) (W : World), w.heap.size ≤ D → S xs → I xs W → W.heap[D]? = some (.deferred (some [])) → Q .normal { a with defers := { target := .collected D, args := #[] } :: a.defers } W) :
    (Code.rangeFunc g ps assign body).wpIn F n P Q a w := by
  refine wpIn_rangeFunc fun fn hfn => ?_
  rw [hro]
  obtain ⟨rec, hrec⟩ : ∃ rec : LoopState → Option Code → Loop, rec = fun st pe => { state := st, pending := pe, fn, tmps := a.tmps, params := ps, assign, body, defers := w.heap.size } := ⟨_, rfl⟩
  have hparams : ∀ st pe, (rec st pe).params = ps := fun st pe => by rw [hrec]
  have hA := World.alloc_heap_new w (.deferred (some []))
  have hB := World.alloc_heap_new (w.alloc (.deferred (some []))) (.loop (rec .ready none))
  rw [World.size_alloc] at hB
  have hA2 : ((w.alloc (.deferred (some []))).alloc (.loop (rec .ready none))).heap[w.heap.size]? = some (.deferred (some [])) := (Below.heap_alloc _ _ _ (by simp)).trans hA
  have hI2 : I [] ((w.alloc (.deferred (some []))).alloc (.loop (rec .ready none))) := hI.alloc _ (hI.alloc _ h0)
  have hW2 : Below w.heap.size w ((w.alloc (.deferred (some []))).alloc (.loop (rec .ready none))) := ((Below.refl _ w).alloc (Nat.le_refl _) _).alloc (by simp) _
  have hsz : ((w.alloc (.deferred (some []))).alloc (.loop (rec .ready none))).heap.size = w.heap.size + 2 := by simp
  have hent : (Instr.enterLoop fn a.tmps ps assign body none).run P w = .ok (w.heap.size + 1, [{ target := .collected w.heap.size, args := #[] }]) ((w.alloc (.deferred (some []))).alloc (.loop (rec .ready none))) := by
    rw [hrec]; exact run_enterLoop_outer _ _ _ _ _
  generalize (w.alloc (.deferred (some []))).alloc (.loop (rec .ready none)) = W1 at *
  refine ⟨w.heap.size + 1, _, W1, { target := .fn (.func gf) lb, args := #[.func (.yield (w.heap.size + 1)) #[] #[]] }, W1, gf, #[.func (.yield (w.heap.size + 1)) #[] #[]] ++ lb, W1, hent, ?_, ?_, ?_, fun _ => h1, ?_⟩
  · simp only [resolve, hg]
    simp [go_sem]
  · intro f' hf'
    simp [Target.leads] at hf'
    subst hf'
    exact hFg
  · simp [invoke, go_sem, eg]
  · refine (hseq (w.heap.size + 1)
      (fun pre W => I pre W ∧ W.heap[w.heap.size + 1]? = some (.loop (rec .ready none)) ∧ W.heap[w.heap.size]? = some (.deferred (some [])))
      W1 hW2 ?_ ?_ ⟨hI2, hB, hA2⟩).mono ?_
    · rintro pre A B row ⟨hi, hl, hk⟩ hg' hr
      have hne : ∀ q : Nat, q < W1.heap.size → some q ≠ row := fun q h1 e => by
        have := (hr q e.symm).1
        omega
      refine ⟨hI pre A B row hi hg' (fun r e => ⟨by have := (hr r e).1; omega, (hr r e).2⟩), ?_, ?_⟩
      · exact (hg'.block _ (Array.getElem?_eq_some_iff.1 hl).1 (hne _ (by omega))).trans hl
      · exact (hg'.block _ (Array.getElem?_eq_some_iff.1 hk).1 (hne _ (by omega))).trans hk
    · rintro pre x W ⟨hi, hl, hk⟩ hPr hLN
      have hy := run_yield (P := P) (args := encs x) hl (by rw [hparams]; exact hps x)
      have hlt : w.heap.size + 1 < W.heap.size := (Array.getElem?_eq_some_iff.1 hl).1
      rw [hrec] at hy
      refine ⟨fn, _, assign, body, hy, roundIn_of_wpIn hfn (hassign _ x W _ ?_)⟩
      have hl1 : (W.alloc (.cells (cs x) t)).heap[w.heap.size + 1]? = some (.loop (rec .ready none)) := (Below.heap_alloc W _ _ hlt).trans hl
      have hk1 : (W.alloc (.cells (cs x) t)).heap[w.heap.size]? = some (.deferred (some [])) := (Below.heap_alloc W _ _ (by omega)).trans hk
      have hi1 : I pre (W.alloc (.cells (cs x) t)) := hI.alloc _ hi
      have hs1 : ∀ k, k < W.heap.size → (W.alloc (.cells (cs x) t)).heap[k]? = W.heap[k]? := fun k hk => Below.heap_alloc W _ k hk
      have hx1 : (W.alloc (.cells (cs x) t)).heap[W.heap.size]? = some (.cells (cs x) t (0, 0)) := World.alloc_heap_new W _
      have hz1 : (W.alloc (.cells (cs x) t)).heap.size = W.heap.size + 1 := by simp
      generalize W.alloc (.cells (cs x) t) = V at *
      refine ⟨_, run_beginRound hl1 (by rw [hrec]), ?_⟩
      have hl2 : (V.putObj (w.heap.size + 1) (.loop { rec .ready none with state := .busy })).heap[w.heap.size + 1]? = some (.loop { rec .ready none with state := .busy }) := World.putObj_heap_same (by omega)
      have hk2 : (V.putObj (w.heap.size + 1) (.loop { rec .ready none with state := .busy })).heap[w.heap.size]? = some (.deferred (some [])) := (World.putObj_heap_other (by omega)).trans hk1
      have hx2 : (V.putObj (w.heap.size + 1) (.loop { rec .ready none with state := .busy })).heap[W.heap.size]? = some (.cells (cs x) t (0, 0)) := (World.putObj_heap_other (by omega)).trans hx1
      have hi2 : I pre (V.putObj (w.heap.size + 1) (.loop { rec .ready none with state := .busy })) := hI.putObj _ hi1 (by omega) hl1 rfl
      have hrnd : KeepR kp W (V.putObj (w.heap.size + 1) (.loop { rec .ready none with state := .busy })) := ⟨by simp; omega, fun k h1 h2 => (World.putObj_heap_other (by have := hkp k h1; omega)).trans (hs1 k h2)⟩
      have hnc : ∀ (k : Nat) (o : Obj), W1.heap.size ≤ k → W.heap[k]? = some o → o.isCells = false → (V.putObj (w.heap.size + 1) (.loop { rec .ready none with state := .busy })).heap[k]? = some o := fun k o hk ho hc => (World.putObj_heap_other (by omega)).trans ((hs1 k (Array.getElem?_eq_some_iff.1 ho).1).trans ho)
      generalize V.putObj (w.heap.size + 1) (.loop { rec .ready none with state := .busy }) = U at *
      refine wpIn_mono (hbody _ pre x W.heap.size U hi2 hPr hLN (by omega) hx2) ?_
      intro e a3 W3 hp
      cases e with
      | normal =>
        obtain ⟨hk3, hb3, hi3⟩ := hp
        have hl3 := hk3.same _ _ (by omega) hl2 rfl
        have hd3 := hk3.same _ _ (Nat.le_refl _) hk2 rfl
        have hr := run_endRound (P := P) none hl3
        have hr' : (Instr.endRound (w.heap.size + 1) none).run P W3 = .ok (.bool true) (W3.putObj (w.heap.size + 1) (.loop (rec .ready none))) := by rw [hr, hrec]; rfl
        exact ⟨_, _, hr', rfl, ⟨hI.putObj _ hi3 (by omega) hl3 rfl, World.putObj_heap_same (Array.getElem?_eq_some_iff.1 hl3).1, (World.putObj_heap_other (by omega)).trans hd3⟩, (hrnd.trans hb3).trans ⟨by simp, fun k h1 h2 => World.putObj_heap_other (by have := hkp k h1; omega)⟩, fun k o hk ho hc => (World.putObj_heap_other (by omega)).trans (hk3.same k o (by omega) (hnc k o hk ho hc) hc)⟩
      | exit i => exact hp.elim
      | ret => exact hp.elim
      | goto t => exact hp.elim
      | panic ch => exact hp.elim
      | outgrown => exact hp.elim
    · rintro e W2 ⟨⟨v, rfl⟩, xs, hS, hi, hl, hk⟩
      have he := run_endLoop (P := P) hl (by rw [hrec]; simp)
      rw [hrec] at he
      exact ⟨none, _, he, hdone _ xs _ (Nat.le_refl _) hS (hI.putObj _ hi (by omega) hl rfl) ((World.putObj_heap_other (by omega)).trans hk)⟩
end
theorem perm_step {α β : Type} {f : α → β} {rem : List α} {p : β} {rest : List β} (h : (rem.map f).Perm (p :: rest)) : ∃ x rem2, rem.Perm (x :: rem2) ∧ f x = p ∧ (rem2.map f).Perm rest := by
  have hp : p ∈ rem.map f := h.mem_iff.2 (by simp)
  obtain ⟨x, hx, rfl⟩ := List.mem_map.1 hp
  obtain ⟨s, t, rfl⟩ := List.append_of_mem hx
  have h1 : (s ++ x :: t).Perm (x :: (s ++ t)) := List.perm_middle
  refine ⟨x, s ++ t, h1, rfl, ?_⟩
  have h2 := (h1.map f).symm.trans h
  rw [List.map_cons] at h2
  exact (List.perm_cons _).1 h2
def valE (p : ByteArray × Ev) : Value × Value := (sv p.1, evA p.2)
/-- Between the rounds of the iterator over a map's values. -/
def VlR (L : List (ByteArray × Ev)) (J : List Ev → World → Prop) (rf mb r : Nat) (wr : World) : Prop :=
  ∃ (pre : List Ev) (rem : List (ByteArray × Ev)) (rest : List (Value × Value)), J pre wr ∧ RgIs wr rf r rest ∧ (rem.map valE).Perm rest ∧ (pre ++ rem.map (·.2)).Perm (L.map (·.2)) ∧ Blk wr mb 135 #[.map (some rf)]
def remLen (rf r : Nat) (wr : World) : Nat := match wr.heap[rf]?, wr.heap[r]? with
  | some (.map es _), some (.mapIter _ _ seen _) => (leftOf es seen).size
  | _, _ => 0
theorem remLen_is {wr : World} {rf r : Nat} {rest : List (Value × Value)} (h : RgIs wr rf r rest) : remLen rf r wr = rest.length := by
  obtain ⟨es, cl, si, se, c0, h1, h2, _, _, _, _, h3⟩ := h
  unfold remLen
  rw [h1, h2, ← h3]
  simp
set_option maxRecDepth 100000 in
set_option maxHeartbeats 4000000 in
theorem values_in (n : Nat) (L : List (ByteArray × Ev)) (rf mb : Nat) (w : World) (hL : StIs w rf (L.map valE)) (hmb : Blk w mb 135 #[.map (some rf)]) :
    SeqQ Fence.wide n Tryz.prog 114 #[.pointer (some ⟨mb, 0, none⟩)] (fun v : Ev => #[evA v]) (fun k => k = rf ∨ k = mb) (fun v => v ∈ L.map (·.2)) (fun xs => xs.Perm (L.map (·.2))) L.length w := by
  intro lo J W hW hJ hY h0
  have hmb' := hmb.below hW hmb.lt
  have hL' : StIs W rf (L.map valE) := hL.same (hW.block rf hL.lt)
  have c0 := cell_of_blk hmb' 0 (v := .map (some rf)) rfl
  obtain ⟨W1, hrun, hRg, hk1⟩ := StIs.range (P := Tryz.prog) Tryz.underlying135 hL'
  have hJ1 : J [] W1 := hJ [] W W1 none h0 (grown_of_keeps hk1 none) (fun r e => by cases e)
  have hmb1 := hmb'.below hk1 hmb'.lt
  have R0 := Lib.hid (show VlR L J rf mb W.heap.size W1 from ⟨[], L, _, hJ1, hRg, List.Perm.refl _, List.Perm.refl _, hmb1⟩)
  have HRLT := Lib.hid hRg.lt.2
  have hsz : W.heap.size ≤ W1.heap.size := hk1.size
  clear hJ1 hmb1 hRg hk1 hmb' hL'
  refine callsIn_of_wp Tryz.func114 rfl trivial ?_ rfl
  simp only [Tryz.ntmps114, List.size_toArray, List.length_cons, List.length_nil, Nat.reduceAdd, Nat.reduceSub, Array.replicate_succ, Array.replicate_zero, List.push_toArray, List.append_toArray, List.nil_append, List.cons_append]
  gi_wp2
  clear hrun
  gi_loopw [4] (fun _ wr => VlR L J rf mb W.heap.size wr) (fun _ wr => remLen rf W.heap.size wr)
  case atStart => exact R0.out
  case round =>
    clear R0
    obtain ⟨pre, rem, rest, hJr, hRg, hp1, hp2, hbm⟩ := hrel
    have HLEN := Lib.hid (remLen_is hRg)
    rcases hRg.next (P := Tryz.prog) 0 with ⟨hr0, hnx⟩ | ⟨k, v, rest', W2, hp3, hnx, hRg2, hg2, hen⟩
    · have HJ := Lib.hid hJr
      have HS := Lib.hid (show pre.Perm (L.map (·.2)) by
        rw [hr0] at hp1
        have : rem = [] := by
          have h := hp1.length_eq
          simp at h
          exact h
        rw [this] at hp2
        simpa using hp2)
      clear hJr hRg hp1 hp2 hbm hr0 c0
      gi_wp2
      go_end0
      exact ⟨⟨_, rfl⟩, pre, HS.out, HJ.out⟩
    · obtain ⟨x, rem2, hx1, hx2, hx3⟩ := perm_step (hp1.trans hp3)
      obtain ⟨xk, off, lo', hi', nd, xA, xc⟩ := x
      simp only [valE, Prod.mk.injEq] at hx2
      obtain ⟨rfl, rfl⟩ := hx2
      have hmem : (⟨off, lo', hi', nd, xA, xc⟩ : Ev) ∈ L.map (·.2) := hp2.mem_iff.1 (List.mem_append_right _ ((hx1.map (·.2)).mem_iff.2 (by simp)))
      have hlen : pre.length < L.length := by
        have h1 := hp2.length_eq
        have h2 := hx1.length_eq
        simp only [List.length_append, List.length_map, List.length_cons] at h1 h2
        omega
      have hJ2 : J pre W2 := hJ pre wr W2 _ hJr hg2 (fun q e => by
        cases e
        obtain ⟨es, cl, si, se, c0', g1, g2, _⟩ := hRg
        exact ⟨Nat.le_refl _, _, g2, rfl⟩)
      have hb2 : Blk W2 mb 135 #[.map (some rf)] := hbm.grown hg2 (fun e => by
        have e' : mb = W.heap.size := Option.some.inj e
        obtain ⟨es, cl, si, se, c0', g1, g2, _⟩ := hRg
        unfold Blk at hbm
        rw [e', g2] at hbm
        cases hbm)
      have hJ3 := Abide.alloc hJ (.cells #[.int .i64 off, .int .i64 lo', .int .i64 hi', .slice xA nd.length xc] 43) hJ2
      have hb3 := hb2.alloc (.cells #[.int .i64 off, .int .i64 lo', .int .i64 hi', .slice xA nd.length xc] 43)
      have hRg3 := hRg2.keep ((Keeps.refl W2).alloc (.cells #[.int .i64 off, .int .i64 lo', .int .i64 hi', .slice xA nd.length xc] 43))
      obtain ⟨fn, tmps, assign, body, hy, hRd⟩ := hY pre ⟨off, lo', hi', nd, xA, xc⟩ _ hJ3 hmem hlen
      have HREST := Lib.hid (show rest'.length < rest.length by have := hp3.length_eq; simp at this; omega)
      have HP2 := Lib.hid (show ((pre ++ [(⟨off, lo', hi', nd, xA, xc⟩ : Ev)]) ++ rem2.map (·.2)).Perm (L.map (·.2)) by
        refine List.Perm.trans ?_ hp2
        rw [List.append_assoc]
        exact (List.Perm.append_left pre (hx1.map (·.2))).symm)
      have HX3 := Lib.hid hx3; have HB3 := Lib.hid hb3; have HR3 := Lib.hid hRg3
      simp only [evA] at hnx hen hy
      clear hJr hRg hp1 hp2 hp3 hbm hRg2 hg2 hx1 hx3 hmem hlen hJ2 hb2 hJ3 hb3 hRg3 c0
      gi_wp2
      refine ⟨fun h => by simp [Fence.wide] at h, hRd.mono ?_⟩
      rintro e W4 ⟨rfl, hJ4, hk4, hn4⟩
      have hR4 : RgIs W4 rf W.heap.size rest' := HR3.out.same (hk4.2 rf (.inl rfl) HR3.out.lt.1) (by
        obtain ⟨es, cl, si, se, c0', g1, g2, _⟩ := HR3.out
        rw [g2]; exact hn4 _ _ (Nat.le_refl _) g2 rfl)
      have R4 := Lib.hid (show VlR L J rf mb W.heap.size W4 from ⟨_, _, _, hJ4, hR4, HX3.out, HP2.out, (hk4.2 mb (.inr rfl) HB3.out.lt).trans HB3.out⟩)
      have HM4 := Lib.hid (remLen_is hR4)
      clear hJ4 hk4 hn4 hR4
      gi_wp2
      go_roundw
      case rel => exact R4.out
      case measure => rw [HM4.out, HLEN.out]; exact HREST.out
end Go.Proofs.YthkmpegpmpdhaaaGreatDoor
