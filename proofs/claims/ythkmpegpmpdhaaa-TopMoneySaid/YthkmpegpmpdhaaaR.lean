/- Part of the proofs of TopMoney and TopOrders. Conditions: as stated in each theorem. -/
import Derived.Test.YthkmpegpmpdhaaaJ
import Derived.Deep.LoopGhost
import Derived.Deep.CutRange
import Derived.StillTailTactics
import Derived.Lib.SliceRun
import Derived.RangeFuncRecord
import Derived.Carry
import Derived.ChangeKeysEq
import Derived.RangeFuncNested
import Derived.RangeFuncCalls
import Derived.RangeFuncLeaves
import Derived.RangeFuncWrites
import Derived.Shelf.Abstract
import Derived.Shelf.RegionOpen
import Derived.OwnWalkIn
import Derived.TacticsInMore
import Derived.LoopNIn
import Derived.LoopIn
import Derived.RangeFuncBound
import Derived.Test.YthkmpegpmpdhaaaRows
import Derived.WalkKit
import Derived.WalkSpells
import Derived.WalkLawsBesides
import Derived.Laws.EntriesVeiled
import Derived.ProofKit
import Derived.OpenShut
import Derived.Lib.Hide
import Derived.BigQuiet
import Derived.Deep.QuietTactic
import Derived.Below
import Derived.Laws.OwnMore
import Derived.Deep.AppendLies
import Derived.Deep.Draws
import Derived.Laws.Rows
import Derived.Maps.AppendAt
import Derived.RegionTactic
import Derived.OwnWalk
import Derived.Deep.RegionHeld3
namespace Go.Proofs.Ythkmpegpmpdhaaa
open Go.Shelf Go.ChangeShapes Go.WideShapes Go.ChangeAt Go.RowKit
set_option linter.unusedSimpArgs false
set_option linter.unusedVariables false
section
open Go.RowKit
variable {F : Fence} {n : Nat} {P : Program}
/-- What is said abides new blocks, a turn of the block dv, and turns of blocks from Z on that are no cells. -/
def Abide {β : Type} (dv Z : Nat) (J : β → World → Prop) : Prop := ∀ (pre : β) (A B : World) (row : Option Nat), J pre A → A.grownBy B row → (∀ r, row = some r → r = dv ∨ (Z ≤ r ∧ ∃ o : Obj, A.heap[r]? = some o ∧ o.isCells = false)) → J pre B
theorem Abide.alloc {β : Type} {dv Z : Nat} {J : β → World → Prop} (h : Abide dv Z J) {pre : β} {A : World} (o : Obj) (hj : J pre A) : J pre (A.alloc o) := h pre A _ none hj (World.grownBy_alloc A o none) (fun r e => by cases e)
theorem Abide.drew {β : Type} {dv Z : Nat} {J : β → World → Prop} (h : Abide dv Z J) {pre : β} {A : World} (hj : J pre A) : J pre A.drew := h pre A _ none hj ⟨rfl, rfl, rfl, Nat.le_refl _, fun _ _ _ => rfl⟩ (fun r e => by cases e)
theorem Abide.own {β : Type} {dv Z : Nat} {J : β → World → Prop} (h : Abide dv Z J) {pre : β} {A B : World} (hj : J pre A) (hg : A.grownBy B (some dv)) : J pre B := h pre A B _ hj hg (fun r e => by cases e; exact .inl rfl)
theorem Abide.putObj {β : Type} {dv Z l : Nat} {J : β → World → Prop} (h : Abide dv Z J) {pre : β} {A : World} {o : Obj} (o' : Obj) (hj : J pre A) (hl : Z ≤ l) (ho : A.heap[l]? = some o) (hc : o.isCells = false) : J pre (A.putObj l o') :=
  h pre A _ (some l) hj (grownBy_putObj' A l o') (fun r e => by cases e; exact .inr ⟨hl, o, ho, hc⟩)
/-- Blocks of the kind kp are as they were. -/
def KeepR (kp : Nat → Prop) (A B : World) : Prop := A.heap.size ≤ B.heap.size ∧ ∀ k, kp k → k < A.heap.size → B.heap[k]? = A.heap[k]?
theorem KeepR.trans {kp : Nat → Prop} {A B C : World} (h : KeepR kp A B) (k : KeepR kp B C) : KeepR kp A C := ⟨Nat.le_trans h.1 k.1, fun i h1 h2 => (k.2 i h1 (Nat.lt_of_lt_of_le h2 h.1)).trans (h.2 i h1 h2)⟩
/-- An iterator that writes the block dv between its rounds, and hands over what Pr says. -/
def SeqR {α : Type} (F : Fence) (n : Nat) (P : Program) (g : Nat) (lb : Array Value) (encs : α → Array Value) (dv : Nat) (kp : Nat → Prop) (Pr : α → Prop) (S : List α → Prop) (N : Nat) (w : World) : Prop :=
  ∀ (l : Nat) (J : List α → World → Prop) (W : World), Below w.heap.size w W → Abide dv W.heap.size J →
    (∀ pre x W1, J pre W1 → Pr x → pre.length < N → YieldAt F (n - 1) P l (encs x) W1 fun e W' => e = .returned (.bool true) ∧ J (pre ++ [x]) W' ∧ KeepR kp W1 W') →
    J [] W →
    CallsIn F n P g (#[.func (.yield l) #[] #[]] ++ lb) W fun e W' => (∃ v, e = .returned v) ∧ ∃ xs, S xs ∧ J xs W'
/-- How a round is left: it goes on. -/
def seqRPost {α : Type} (B : Nat) (kp : Nat → Prop) (I : List α → World → Prop) (xs : List α) (W : World) : Exit → Act → World → Prop
  | .normal, _, W' => KeepsFrom B W W' ∧ KeepR kp W W' ∧ I xs W'
  | _, _, _ => False
theorem range_seqR {α : Type} {g : Operand} {ps : Array Tmp} {assign body : Code} {Q : Exit → Act → World → Prop} {a : Act} {w : World}
    (hro : F.round = none) (h1 : 1 ≤ n) {gf : Nat} {lb : Array Value} (hg : a.eval g = .func (.func gf) #[] lb) (hFg : F.fn gf) (eg : ∀ args w, (callFunc gf args).run P w = .ok (.enter gf args) w)
    {encs : α → Array Value} {dv : Nat} {kp : Nat → Prop} {Pr : α → Prop} {S : List α → Prop} {N : Nat} (hseq : SeqR F (n - 1) P gf lb encs dv kp Pr S N w) (hkp : ∀ k, kp k → k < w.heap.size) (hdv : dv < w.heap.size) (hps : ∀ x, (encs x).size = ps.size)
    (I : List α → World → Prop) (hI : Abide dv w.heap.size I) (h0 : I [] w)
    (t : TypeId) (cs : α → Array Value) (a₁ : α → Nat → Act)
    (hassign : ∀ (l : Nat) (x : α) (W : World) (K : Act → World → Prop), K (a₁ x W.heap.size) (W.alloc (.cells (cs x) t)) →
      assign.wpIn (F.inRound l) (n - 1 - 1) P (Exit.then K (fun _ _ _ => False)) { tmps := (ps.zip (encs x)).foldl (fun t (p, v) => t.setIfInBounds p v) a.tmps, defers := [] } W)
    (hbody : ∀ (l : Nat) (pre : List α) (x : α) (B : Nat) (W : World), I pre W → Pr x → pre.length < N → w.heap.size ≤ B → W.heap[B]? = some (.cells (cs x) t (0, 0)) →
      body.wpIn (F.inRound l) (n - 1 - 1) P (seqRPost w.heap.size kp I (pre ++ [x]) W) (a₁ x B) W)
    (hdone : ∀ (D : Nat) (xs : List α) (W : World), w.heap.size ≤ D → S xs → I xs W → W.heap[D]? = some (.deferred (some [])) → Q .normal { a with defers := { target := .collected D, args := #[] } :: a.defers } W) :
    (Code.rangeFunc g ps assign body).wpIn F n P Q a w := by
  refine wpIn_rangeFunc fun fn hfn => ?_
  rw [hro]
  obtain ⟨rec, hrec⟩ : ∃ rec : LoopState → Option Code → Loop, rec = fun st pe => { state := st, pending := pe, fn, tmps := a.tmps, params := ps, assign, body, defers := w.heap.size } := ⟨_, rfl⟩
  have hparams : ∀ st pe, (rec st pe).params = ps := fun st pe => by rw [hrec]
  have hA := World.alloc_heap_new w (.deferred (some []))
  have hB := World.alloc_heap_new (w.alloc (.deferred (some []))) (.loop (rec .ready none))
  rw [World.size_alloc] at hB
  have hA2 : ((w.alloc (.deferred (some []))).alloc (.loop (rec .ready none))).heap[w.heap.size]? = some (.deferred (some [])) := (Below.heap_alloc _ _ _ (by simp)).trans hA
  have hI2 : I [] ((w.alloc (.deferred (some []))).alloc (.loop (rec .ready none))) := hI.alloc _ (hI.alloc _ h0)
  have hW2 : Below w.heap.size w ((w.alloc (.deferred (some []))).alloc (.loop (rec .ready none))) := ((Below.refl _ w).alloc (Nat.le_refl _) _).alloc (by simp) _
  have hsz : ((w.alloc (.deferred (some []))).alloc (.loop (rec .ready none))).heap.size = w.heap.size + 2 := by simp
  have hent : (Instr.enterLoop fn a.tmps ps assign body none).run P w = .ok (w.heap.size + 1, [{ target := .collected w.heap.size, args := #[] }]) ((w.alloc (.deferred (some []))).alloc (.loop (rec .ready none))) := by
    rw [hrec]; exact run_enterLoop_outer _ _ _ _ _
  generalize (w.alloc (.deferred (some []))).alloc (.loop (rec .ready none)) = W1 at *
  refine ⟨w.heap.size + 1, _, W1, { target := .fn (.func gf) lb, args := #[.func (.yield (w.heap.size + 1)) #[] #[]] }, W1, gf, #[.func (.yield (w.heap.size + 1)) #[] #[]] ++ lb, W1, hent, ?_, ?_, ?_, fun _ => h1, ?_⟩
  · simp only [resolve, hg]
    simp [go_sem]
  · intro f' hf'
    simp [Target.leads] at hf'
    subst hf'
    exact hFg
  · simp [invoke, go_sem, eg]
  · refine (hseq (w.heap.size + 1)
      (fun pre W => I pre W ∧ W.heap[w.heap.size + 1]? = some (.loop (rec .ready none)) ∧ W.heap[w.heap.size]? = some (.deferred (some [])))
      W1 hW2 ?_ ?_ ⟨hI2, hB, hA2⟩).mono ?_
    · rintro pre A B row ⟨hi, hl, hk⟩ hg' hr
      have hne : ∀ q : Nat, q < W1.heap.size → q ≠ dv → some q ≠ row := fun q h1 h2 e => by
        rcases hr q e.symm with h | ⟨h, _⟩
        · exact h2 h
        · omega
      refine ⟨hI pre A B row hi hg' (fun r e => (hr r e).imp (fun x => x) (fun h => ⟨by omega, h.2⟩)), ?_, ?_⟩
      · exact (hg'.block _ (Array.getElem?_eq_some_iff.1 hl).1 (hne _ (by omega) (by omega))).trans hl
      · exact (hg'.block _ (Array.getElem?_eq_some_iff.1 hk).1 (hne _ (by omega) (by omega))).trans hk
    · rintro pre x W ⟨hi, hl, hk⟩ hPr hLN
      have hy := run_yield (P := P) (args := encs x) hl (by rw [hparams]; exact hps x)
      have hlt : w.heap.size + 1 < W.heap.size := (Array.getElem?_eq_some_iff.1 hl).1
      rw [hrec] at hy
      refine ⟨fn, _, assign, body, hy, roundIn_of_wpIn hfn (hassign _ x W _ ?_)⟩
      have hl1 : (W.alloc (.cells (cs x) t)).heap[w.heap.size + 1]? = some (.loop (rec .ready none)) := (Below.heap_alloc W _ _ hlt).trans hl
      have hk1 : (W.alloc (.cells (cs x) t)).heap[w.heap.size]? = some (.deferred (some [])) := (Below.heap_alloc W _ _ (by omega)).trans hk
      have hi1 : I pre (W.alloc (.cells (cs x) t)) := hI.alloc _ hi
      have hs1 : ∀ k, k < W.heap.size → (W.alloc (.cells (cs x) t)).heap[k]? = W.heap[k]? := fun k hk => Below.heap_alloc W _ k hk
      have hx1 : (W.alloc (.cells (cs x) t)).heap[W.heap.size]? = some (.cells (cs x) t (0, 0)) := World.alloc_heap_new W _
      have hz1 : (W.alloc (.cells (cs x) t)).heap.size = W.heap.size + 1 := by simp
      generalize W.alloc (.cells (cs x) t) = V at *
      refine ⟨_, run_beginRound hl1 (by rw [hrec]), ?_⟩
      have hl2 : (V.putObj (w.heap.size + 1) (.loop { rec .ready none with state := .busy })).heap[w.heap.size + 1]? = some (.loop { rec .ready none with state := .busy }) := World.putObj_heap_same (by omega)
      have hk2 : (V.putObj (w.heap.size + 1) (.loop { rec .ready none with state := .busy })).heap[w.heap.size]? = some (.deferred (some [])) := (World.putObj_heap_other (by omega)).trans hk1
      have hx2 : (V.putObj (w.heap.size + 1) (.loop { rec .ready none with state := .busy })).heap[W.heap.size]? = some (.cells (cs x) t (0, 0)) := (World.putObj_heap_other (by omega)).trans hx1
      have hi2 : I pre (V.putObj (w.heap.size + 1) (.loop { rec .ready none with state := .busy })) := hI.putObj _ hi1 (by omega) hl1 rfl
      have hrnd : KeepR kp W (V.putObj (w.heap.size + 1) (.loop { rec .ready none with state := .busy })) := ⟨by simp; omega, fun k h1 h2 => (World.putObj_heap_other (by have := hkp k h1; omega)).trans (hs1 k h2)⟩
      generalize V.putObj (w.heap.size + 1) (.loop { rec .ready none with state := .busy }) = U at *
      refine wpIn_mono (hbody _ pre x W.heap.size U hi2 hPr hLN (by omega) hx2) ?_
      intro e a3 W3 hp
      cases e with
      | normal =>
        obtain ⟨hk3, hb3, hi3⟩ := hp
        have hl3 := hk3.same _ _ (by omega) hl2 rfl
        have hd3 := hk3.same _ _ (Nat.le_refl _) hk2 rfl
        have hr := run_endRound (P := P) none hl3
        have hr' : (Instr.endRound (w.heap.size + 1) none).run P W3 = .ok (.bool true) (W3.putObj (w.heap.size + 1) (.loop (rec .ready none))) := by rw [hr, hrec]; rfl
        exact ⟨_, _, hr', rfl, ⟨hI.putObj _ hi3 (by omega) hl3 rfl, World.putObj_heap_same (Array.getElem?_eq_some_iff.1 hl3).1, (World.putObj_heap_other (by omega)).trans hd3⟩, (hrnd.trans hb3).trans ⟨by simp, fun k h1 h2 => World.putObj_heap_other (by have := hkp k h1; omega)⟩⟩
      | exit i => exact hp.elim
      | ret => exact hp.elim
      | goto t => exact hp.elim
      | panic ch => exact hp.elim
      | outgrown => exact hp.elim
    · rintro e W2 ⟨⟨v, rfl⟩, xs, hS, hi, hl, hk⟩
      have he := run_endLoop (P := P) hl (by rw [hrec]; simp)
      rw [hrec] at he
      exact ⟨none, _, he, hdone _ xs _ (Nat.le_refl _) hS (hI.putObj _ hi (by omega) hl rfl) ((World.putObj_heap_other (by omega)).trans hk)⟩
end
end Go.Proofs.Ythkmpegpmpdhaaa
