/- Part of the proof of TopOwnItem. Conditions: as stated in each theorem. -/
import Derived.Test.YthkmpegpmpdhaaaGreatDoorZGk
import Derived.Test.YthkmpegpmpdhaaaGreatDoorZGj
import Derived.Test.YthkmpegpmpdhaaaGreatDoorProg
import Derived.WalkMore
import Derived.Maps.OwnIn
import Derived.Deep.LoopGhost
import Derived.RangeFuncNested
import Derived.RangeFuncCalls
import Derived.RangeFuncLeaves
import Derived.RangeFuncWrites
import Derived.Shelf.Abstract
import Derived.Shelf.RegionOpen
import Derived.OwnWalkIn
import Derived.TacticsInMore
import Derived.LoopNIn
import Derived.LoopIn
import Derived.RangeFuncBound
import Derived.WalkKit
import Derived.WalkSpells
import Derived.WalkLawsBesides
import Derived.Laws.EntriesVeiled
import Derived.ProofKit
import Derived.OpenShut
import Derived.Lib.Hide
import Derived.BigQuiet
import Derived.Deep.QuietTactic
import Derived.Deep.CutRange
import Derived.StillTailTactics
import Derived.Lib.SliceRun
import Derived.RangeFuncRecord
import Derived.Carry
import Derived.ChangeKeysEq
import Derived.Below
import Derived.Laws.OwnMore
import Derived.Deep.AppendLies
import Derived.Deep.Draws
import Derived.Laws.Rows
import Derived.Maps.AppendAt
import Derived.RegionTactic
import Derived.OwnWalk
import Derived.Deep.RegionHeld3
namespace Go.Proofs.YthkmpegpmpdhaaaGreatDoor
section
open Go.Shelf Go.ChangeShapes Go.WideShapes Go.ChangeAt Go.RowKit
set_option linter.unusedSimpArgs false
set_option linter.unusedVariables false
section
open Go.RowKit
variable {P : Program}
/-- What is said, with the blocks of its own, abides whatever turns none of them, from Z on. -/
def AbideO {β : Type} (Z : Nat) (J : β → (Nat → Prop) → World → Prop) : Prop := ∀ (pre : β) (own : Nat → Prop) (A B : World) (row : Option Nat), J pre own A → A.grownBy B row → (∀ r, row = some r → Z ≤ r ∧ ¬ own r) → J pre own B
theorem AbideO.alloc {β : Type} {Z : Nat} {J : β → (Nat → Prop) → World → Prop} (h : AbideO Z J) {pre : β} {own : Nat → Prop} {A : World} (o : Obj) (hj : J pre own A) : J pre own (A.alloc o) := h pre own A _ none hj (World.grownBy_alloc A o none) (fun r e => by cases e)
theorem AbideO.keeps {β : Type} {Z : Nat} {J : β → (Nat → Prop) → World → Prop} (h : AbideO Z J) {pre : β} {own : Nat → Prop} {A B : World} (hj : J pre own A) (hk : Keeps A B) : J pre own B := h pre own A B none hj (grown_of_keeps hk none) (fun r e => by cases e)
theorem AbideO.putObj {β : Type} {Z l : Nat} {J : β → (Nat → Prop) → World → Prop} (h : AbideO Z J) {pre : β} {own : Nat → Prop} {A : World} (o' : Obj) (hj : J pre own A) (hl : Z ≤ l) (ho : ¬ own l) : J pre own (A.putObj l o') :=
  h pre own A _ (some l) hj (grownBy_putObj' A l o') (fun r e => by cases e; exact ⟨hl, ho⟩)
/-- A round turns its own blocks alone, and takes none but those that were handed over and new ones. -/
def OwnStep (own own' gv : Nat → Prop) (A B : World) : Prop := A.heap.size ≤ B.heap.size ∧ (∀ k, k < A.heap.size → ¬ own k → B.heap[k]? = A.heap[k]?) ∧ ∀ k, own' k → (own k ∨ gv k ∨ A.heap.size ≤ k) ∧ k < B.heap.size
/-- An iterator beside a body with blocks of its own; each round may take the blocks that the element hands over. -/
def SeqO {α : Type} (P : Program) (g : Nat) (lb : Array Value) (encs : α → Array Value) (kp : Nat → Prop) (giv : α → Nat → Prop) (Pr : α → World → Prop) (T S : List α → Prop) (w : World) : Prop :=
  ∀ (l : Nat) (J : List α → (Nat → Prop) → World → Prop) (W : World) (own0 : Nat → Prop), Below w.heap.size w W → AbideO W.heap.size J → (∀ k, own0 k → k < W.heap.size) → (∀ k, kp k → ¬ own0 k) →
    (∀ (m : Nat) pre own x W1, J pre own W1 → (∀ k, own k → k < W1.heap.size) → Pr x W1 → (∀ k, giv x k → ¬ own k ∧ k < W1.heap.size) → T (pre ++ [x]) → YieldAt Fence.wide m P l (encs x) W1 fun e W' => e = .returned (.bool true) ∧ ∃ own', J (pre ++ [x]) own' W' ∧ OwnStep own own' (giv x) W1 W') →
    J [] own0 W →
    Calls P g (#[.func (.yield l) #[] #[]] ++ lb) W fun e W' => (∃ v, e = .returned v) ∧ ∃ xs own, S xs ∧ J xs own W'
/-- How a round is left: it goes on. -/
def seqOPost {α : Type} (own gv : Nat → Prop) (B : Nat) (I : List α → (Nat → Prop) → World → Prop) (xs : List α) (W : World) : Exit → Act → World → Prop
  | .normal, _, W' => ∃ own', I xs own' W' ∧ W.heap.size ≤ W'.heap.size ∧ (∀ k, k < B → ¬ own k → W'.heap[k]? = W.heap[k]?) ∧ ∀ k, own' k → (own k ∨ gv k ∨ B ≤ k) ∧ k < W'.heap.size
  | _, _, _ => False
theorem range_seqO {α : Type} {n : Nat} {g : Operand} {ps : Array Tmp} {assign body : Code} {Q : Exit → Act → World → Prop} {a : Act} {w : World}
    (h1 : 1 ≤ n) {gf : Nat} {lb : Array Value} (hg : a.eval g = .func (.func gf) #[] lb) (eg : ∀ args w, (callFunc gf args).run P w = .ok (.enter gf args) w)
    {encs : α → Array Value} {kp : Nat → Prop} {giv : α → Nat → Prop} {Pr : α → World → Prop} {T S : List α → Prop} (hseq : SeqO P gf lb encs kp giv Pr T S w) (hps : ∀ x, (encs x).size = ps.size)
    (hPr : ∀ x A B, Pr x A → Keeps A B → Pr x B) (hPo : ∀ x (A : World) (l : Nat) (o o' : Obj), Pr x A → A.heap[l]? = some o → o.isCells = false → Pr x (A.putObj l o'))
    (hgc : ∀ x (A : World) k, Pr x A → giv x k → ∃ o : Obj, A.heap[k]? = some o ∧ o.isCells = true)
    (I : List α → (Nat → Prop) → World → Prop) (hI : AbideO w.heap.size I) (own0 : Nat → Prop) (ho0 : ∀ k, own0 k → k < w.heap.size) (hkp : ∀ k, kp k → ¬ own0 k) (h0 : I [] own0 w)
    (t : TypeId) (cs : α → Array Value) (a₁ : α → Nat → Act)
    (hassign : ∀ (l m : Nat) (x : α) (W : World) (K : Act → World → Prop), K (a₁ x W.heap.size) (W.alloc (.cells (cs x) t)) →
      assign.wpIn (Fence.wide.inRound l) m P (Exit.then K (fun _ _ _ => False)) { tmps := (ps.zip (encs x)).foldl (fun t (p, v) => t.setIfInBounds p v) a.tmps, defers := [] } W)
    (hbody : ∀ (l m : Nat) (pre : List α) (own : Nat → Prop) (x : α) (B : Nat) (W : World), I pre own W → (∀ k, own k → k < B) → Pr x W → (∀ k, giv x k → ¬ own k ∧ k < B) → T (pre ++ [x]) → w.heap.size ≤ B → Blk W B t (cs x) →
      body.wpIn (Fence.wide.inRound l) m P (seqOPost own (giv x) B I (pre ++ [x]) W) (a₁ x B) W)
    (hdone : ∀ (D : Nat) (xs : List α) (own : Nat → Prop) (W : World), w.heap.size ≤ D → ¬ own D → S xs → I xs own W → W.heap[D]? = some (.deferred (some [])) → Q .normal { a with defers := { target := .collected D, args := #[] } :: a.defers } W) :
    (Code.rangeFunc g ps assign body).wpIn Fence.wide n P Q a w := by
  refine wpIn_rangeFunc fun fn hfn => ?_
  rw [show Fence.wide.round = none from rfl]
  obtain ⟨rec, hrec⟩ : ∃ rec : LoopState → Option Code → Loop, rec = fun st pe => { state := st, pending := pe, fn, tmps := a.tmps, params := ps, assign, body, defers := w.heap.size } := ⟨_, rfl⟩
  have hparams : ∀ st pe, (rec st pe).params = ps := fun st pe => by rw [hrec]
  have hA := World.alloc_heap_new w (.deferred (some []))
  have hB := World.alloc_heap_new (w.alloc (.deferred (some []))) (.loop (rec .ready none))
  rw [World.size_alloc] at hB
  have hA2 : ((w.alloc (.deferred (some []))).alloc (.loop (rec .ready none))).heap[w.heap.size]? = some (.deferred (some [])) := (Below.heap_alloc _ _ _ (by simp)).trans hA
  have hI2 : I [] own0 ((w.alloc (.deferred (some []))).alloc (.loop (rec .ready none))) := hI.alloc _ (hI.alloc _ h0)
  have hW2 : Below w.heap.size w ((w.alloc (.deferred (some []))).alloc (.loop (rec .ready none))) := ((Below.refl _ w).alloc (Nat.le_refl _) _).alloc (by simp) _
  have hsz : ((w.alloc (.deferred (some []))).alloc (.loop (rec .ready none))).heap.size = w.heap.size + 2 := by simp
  have hent : (Instr.enterLoop fn a.tmps ps assign body none).run P w = .ok (w.heap.size + 1, [{ target := .collected w.heap.size, args := #[] }]) ((w.alloc (.deferred (some []))).alloc (.loop (rec .ready none))) := by
    rw [hrec]; exact run_enterLoop_outer _ _ _ _ _
  generalize (w.alloc (.deferred (some []))).alloc (.loop (rec .ready none)) = W1 at *
  refine ⟨w.heap.size + 1, _, W1, { target := .fn (.func gf) lb, args := #[.func (.yield (w.heap.size + 1)) #[] #[]] }, W1, gf, #[.func (.yield (w.heap.size + 1)) #[] #[]] ++ lb, W1, hent, ?_, ?_, ?_, fun _ => h1, ?_⟩
  · simp only [resolve, hg]
    simp [go_sem]
  · intro f' hf'
    simp [Target.leads] at hf'
    trivial
  · simp [invoke, go_sem, eg]
  · refine (callsIn_wide.2 (hseq (w.heap.size + 1)
      (fun pre own W => I pre own W ∧ W.heap[w.heap.size + 1]? = some (.loop (rec .ready none)) ∧ W.heap[w.heap.size]? = some (.deferred (some [])) ∧ ¬ own (w.heap.size + 1) ∧ ¬ own w.heap.size)
      W1 own0 hW2 ?_ (fun k hk => by have := ho0 k hk; omega) hkp ?_ ⟨hI2, hB, hA2, fun e => by have := ho0 _ e; omega, fun e => by have := ho0 _ e; omega⟩)).mono ?_
    · rintro pre own A B row ⟨hi, hl, hk, ho1, ho2⟩ hg' hr
      have hne : ∀ q : Nat, q < W1.heap.size → some q ≠ row := fun q h1 e => by
        have := (hr q e.symm).1
        omega
      refine ⟨hI pre own A B row hi hg' (fun r e => ⟨by have := (hr r e).1; omega, (hr r e).2⟩), ?_, ?_, ho1, ho2⟩
      · exact (hg'.block _ (Array.getElem?_eq_some_iff.1 hl).1 (hne _ (by omega))).trans hl
      · exact (hg'.block _ (Array.getElem?_eq_some_iff.1 hk).1 (hne _ (by omega))).trans hk
    · rintro m pre own x W ⟨hi, hl, hk, ho1, ho2⟩ hob hPx hgv hT
      have hy := run_yield (P := P) (args := encs x) hl (by rw [hparams]; exact hps x)
      have hlt : w.heap.size + 1 < W.heap.size := (Array.getElem?_eq_some_iff.1 hl).1
      have hnc : ∀ k (o : Obj), giv x k → W.heap[k]? = some o → o.isCells = false → False := fun k o h1 h2 h3 => by
        obtain ⟨o2, h4, h5⟩ := hgc x W k hPx h1
        rw [h2] at h4; cases h4; rw [h3] at h5; cases h5
      have hg1 : ¬ giv x (w.heap.size + 1) := fun e => hnc _ _ e hl rfl
      have hg2 : ¬ giv x w.heap.size := fun e => hnc _ _ e hk rfl
      rw [hrec] at hy
      refine ⟨fn, _, assign, body, hy, roundIn_of_wpIn hfn (hassign _ _ x W _ ?_)⟩
      have hl1 : (W.alloc (.cells (cs x) t)).heap[w.heap.size + 1]? = some (.loop (rec .ready none)) := (Below.heap_alloc W _ _ hlt).trans hl
      have hk1 : (W.alloc (.cells (cs x) t)).heap[w.heap.size]? = some (.deferred (some [])) := (Below.heap_alloc W _ _ (by omega)).trans hk
      have hi1 : I pre own (W.alloc (.cells (cs x) t)) := hI.alloc _ hi
      have hs1 : ∀ k, k < W.heap.size → (W.alloc (.cells (cs x) t)).heap[k]? = W.heap[k]? := fun k hk => Below.heap_alloc W _ k hk
      have hx1 : (W.alloc (.cells (cs x) t)).heap[W.heap.size]? = some (.cells (cs x) t (0, 0)) := World.alloc_heap_new W _
      have hp1 : Pr x (W.alloc (.cells (cs x) t)) := hPr _ _ _ hPx ((Keeps.refl W).alloc _)
      have hz1 : (W.alloc (.cells (cs x) t)).heap.size = W.heap.size + 1 := by simp
      generalize W.alloc (.cells (cs x) t) = V at *
      refine ⟨_, run_beginRound hl1 (by rw [hrec]), ?_⟩
      have hl2 : (V.putObj (w.heap.size + 1) (.loop { rec .ready none with state := .busy })).heap[w.heap.size + 1]? = some (.loop { rec .ready none with state := .busy }) := World.putObj_heap_same (by omega)
      have hk2 : (V.putObj (w.heap.size + 1) (.loop { rec .ready none with state := .busy })).heap[w.heap.size]? = some (.deferred (some [])) := (World.putObj_heap_other (by omega)).trans hk1
      have hx2 : (V.putObj (w.heap.size + 1) (.loop { rec .ready none with state := .busy })).heap[W.heap.size]? = some (.cells (cs x) t (0, 0)) := (World.putObj_heap_other (by omega)).trans hx1
      have hi2 : I pre own (V.putObj (w.heap.size + 1) (.loop { rec .ready none with state := .busy })) := hI.putObj _ hi1 (by omega) ho1
      have hp2 : Pr x (V.putObj (w.heap.size + 1) (.loop { rec .ready none with state := .busy })) := hPo x V _ _ _ hp1 hl1 rfl
      have hs2 : ∀ k, k < W.heap.size → k ≠ w.heap.size + 1 → (V.putObj (w.heap.size + 1) (.loop { rec .ready none with state := .busy })).heap[k]? = W.heap[k]? := fun k h1 h2 => (World.putObj_heap_other h2).trans (hs1 k h1)
      have hz2 : (V.putObj (w.heap.size + 1) (.loop { rec .ready none with state := .busy })).heap.size = W.heap.size + 1 := by simp [hz1]
      generalize V.putObj (w.heap.size + 1) (.loop { rec .ready none with state := .busy }) = U at *
      refine wpIn_mono (hbody _ _ pre own x W.heap.size U hi2 hob hp2 hgv hT (by omega) hx2) ?_
      intro e a3 W3 hp
      cases e with
      | normal =>
        obtain ⟨own', hi3, hst1, hst2, hst3⟩ := hp
        have hl3 : W3.heap[w.heap.size + 1]? = some (.loop { rec .ready none with state := .busy }) := (hst2 _ (by omega) ho1).trans hl2
        have hd3 : W3.heap[w.heap.size]? = some (.deferred (some [])) := (hst2 _ (by omega) ho2).trans hk2
        have hr := run_endRound (P := P) none hl3
        have hr' : (Instr.endRound (w.heap.size + 1) none).run P W3 = .ok (.bool true) (W3.putObj (w.heap.size + 1) (.loop (rec .ready none))) := by rw [hr, hrec]; rfl
        have hn1 : ¬ own' (w.heap.size + 1) := fun e => by
          rcases (hst3 _ e).1 with h | h | h
          · exact ho1 h
          · exact hg1 h
          · omega
        have hn2 : ¬ own' w.heap.size := fun e => by
          rcases (hst3 _ e).1 with h | h | h
          · exact ho2 h
          · exact hg2 h
          · omega
        refine ⟨_, _, hr', rfl, own', ⟨hI.putObj _ hi3 (by omega) hn1, World.putObj_heap_same (Array.getElem?_eq_some_iff.1 hl3).1, (World.putObj_heap_other (by omega)).trans hd3, hn1, hn2⟩, by simp; omega, fun k h1 h2 => ?_, fun k hk => ?_⟩
        · by_cases e : k = w.heap.size + 1
          · subst e
            rw [World.putObj_heap_same (Array.getElem?_eq_some_iff.1 hl3).1]
            exact hl.symm
          · rw [World.putObj_heap_other e, hst2 k (by omega) h2, hs2 k h1 e]
        · obtain ⟨h1, h2⟩ := hst3 k hk
          exact ⟨by rcases h1 with h | h | h
                    · exact .inl h
                    · exact .inr (.inl h)
                    · exact .inr (.inr (by omega)), by simpa using h2⟩
      | exit i => exact hp.elim
      | ret => exact hp.elim
      | goto t => exact hp.elim
      | panic ch => exact hp.elim
      | outgrown => exact hp.elim
    · rintro e W2 ⟨⟨v, rfl⟩, xs, own, hS, hi, hl, hk, ho1, ho2⟩
      have he := run_endLoop (P := P) hl (by rw [hrec]; simp)
      rw [hrec] at he
      exact ⟨none, _, he, hdone _ xs own _ (Nat.le_refl _) ho2 hS (hI.putObj _ hi (by omega) ho1) ((World.putObj_heap_other (by omega)).trans hk)⟩
end
end
section
open Go.Shelf Go.ChangeShapes Go.WideShapes Go.ChangeAt Go.RowKit
set_option linter.unusedSimpArgs false
set_option linter.unusedVariables false
theorem RecIn.same {α : Type} {R : RowTy α} {w w' : World} {B : Nat} {A : Option Addr} {l : List α} (h : RecIn R w B A l) (hs : ∀ k off, A = some ⟨k, off, none⟩ → w'.heap[k]? = w.heap[k]?) : RecIn R w' B A l := fun j x hj => by
  obtain ⟨b, off, e, hb, hc⟩ := h j x hj
  refine ⟨b, off, e, hb, fun i u hu => ?_⟩
  have := hc i u hu
  rw [← this]
  unfold World.cell?
  simp only [hs b off e]
/-- The scanners, the last first, with their indexes. -/
def revEnum (l : List Scn) : List (Scn × Nat) := l.zipIdx.reverse
theorem revEnum_at {l : List Scn} {j : Nat} {x : Scn} (h : l[j]? = some x) : (revEnum l)[l.length - 1 - j]? = some (x, j) := by
  have hlt := (List.getElem?_eq_some_iff.1 h).1
  unfold revEnum
  rw [List.getElem?_reverse (by simp; omega)]
  simp only [List.length_zipIdx]
  rw [show l.length - 1 - (l.length - 1 - j) = j by omega, List.getElem?_zipIdx, h]
  simp
theorem revEnum_len (l : List Scn) : (revEnum l).length = l.length := by simp [revEnum]
theorem backward36 (A : Option Addr) (m c : Nat) (w : World) : Calls Tryz.prog 36 #[.slice A m c] w fun e w' => e = .returned (.func (.func 88) #[] #[.pointer (some ⟨w.heap.size, 0, none⟩)]) ∧ w' = w.alloc (.cells #[.slice A m c] 22) := by
  go_enter Tryz.func36, Tryz.ntmps36
  go_wp2
  go_ret
  exact ⟨rfl, rfl⟩
def BkR (l : List Scn) (J : List (Scn × Nat) → (Nat → Prop) → World → Prop) (kp : Nat → Prop) (W : World) (v : Value) (wr : World) : Prop :=
  ∃ (j : Nat) (own : Nat → Prop), v = .int .i64 ((j : Int) - 1) ∧ j ≤ l.length ∧ J ((revEnum l).take (l.length - j)) own wr ∧ (∀ k, own k → k < wr.heap.size) ∧ (∀ k, kp k → ¬ own k) ∧ (∀ k, kp k → wr.heap[k]? = W.heap[k]?) ∧ W.heap.size ≤ wr.heap.size
set_option maxRecDepth 100000 in
set_option maxHeartbeats 4000000 in
theorem back88 (l : List Scn) (A : Option Addr) (n c mb : Nat) (w : World) (h : RecIn scR w w.heap.size A l) (hn : Hid (n = l.length)) (hnx : n ≤ 1000) (hb : Blk w mb 22 #[.slice A n c]) :
    SeqO Tryz.prog 88 #[.pointer (some ⟨mb, 0, none⟩)] (fun p : Scn × Nat => #[.int .i64 (p.2 : Int), scA p.1]) (fun k => k < w.heap.size ∧ (k = mb ∨ (l ≠ [] ∧ ∃ off, A = some ⟨k, off, none⟩))) (fun _ _ => False) (fun _ _ => True) (fun xs => ∃ rest, revEnum l = xs ++ rest) (fun xs => xs = revEnum l) w := by
  intro lo J W own0 hW hJ ho0 hkp hY hJ0
  have HD := Lib.hid (h.below hW)
  have hb' := hb.below hW hb.lt
  have HB := Lib.hid hb'
  have HBL := Lib.hid hb.lt
  have HSZ := Lib.hid hW.size
  have R0 := Lib.hid (show BkR l J (fun k => k < w.heap.size ∧ (k = mb ∨ (l ≠ [] ∧ ∃ off, A = some ⟨k, off, none⟩))) W (.int .i64 ((n : Int) - 1)) W from ⟨n, own0, rfl, by have := hn.out; omega, by rw [show l.length - n = 0 by have := hn.out; omega]; exact hJ0, ho0, hkp, fun _ _ => rfl, Nat.le_refl _⟩)
  have c0 := hb'.cell 0
  have nw : IntKind.i64.wrap ((n : Int) - 1) = (n : Int) - 1 := wrap_in (by omega) (by omega)
  clear h hb hb' hJ0 ho0 hkp
  refine (callsIn_wide (n := 3)).1 ?_
  refine callsIn_of_wp Tryz.func88 rfl trivial ?_ rfl
  simp only [Tryz.ntmps88, List.size_toArray, List.length_cons, List.length_nil, Nat.reduceAdd, Nat.reduceSub, Array.replicate_succ, Array.replicate_zero, List.push_toArray, List.append_toArray, List.nil_append, List.cons_append]
  gi_wp2
  gi_loopw [3] (fun v wr => BkR l J (fun k => k < w.heap.size ∧ (k = mb ∨ (l ≠ [] ∧ ∃ off, A = some ⟨k, off, none⟩))) W v wr) (fun v _ => (intOf v + 1).toNat)
  case atStart => exact R0.out
  case round =>
    obtain ⟨j, own, rfl, hj, hJr, hob, hkr, hsm, hsz⟩ := hrel
    have hnl := hn.out
    clear R0 nw
    rcases j with _ | j
    · have e0 : (((0 : Nat) : Int) - 1) = -1 := by omega
      have HJ := Lib.hid hJr
      rw [e0]
      clear hJr hob hkr hsm c0
      gi_wp2
      go_end0
      refine ⟨⟨_, rfl⟩, _, own, ?_, HJ.out⟩
      rw [Nat.sub_zero, List.take_of_length_le (by rw [revEnum_len]; omega)]
    · have e0 : (((j + 1 : Nat) : Int) - 1) = (j : Int) := by omega
      rw [e0]
      obtain ⟨x, hx⟩ : ∃ x, l[j]? = some x := ⟨_, List.getElem?_eq_getElem (by omega)⟩
      have hre := revEnum_at hx
      have c0r := (Blk.cell (show Blk wr mb 22 #[.slice A n c] from (hsm mb ⟨HBL.out, .inl rfl⟩).trans HB.out) 0)
      have hri := (HD.out.same (w' := wr) (fun k off e => hsm k ⟨(HD.out j x hx).elim fun b hh => by obtain ⟨o2, e2, hb2, _⟩ := hh; rw [e] at e2; cases e2; exact hb2, .inr ⟨fun e3 => (by rw [e3] at hx; simp at hx), off, e⟩⟩))
      obtain ⟨b, o, rfl, hbl, s0, s1, s2⟩ := hri.sc hx
      have HTK := Lib.hid (show (revEnum l).take (l.length - (j + 1)) ++ [(x, j)] = (revEnum l).take (l.length - j) by
        rw [show l.length - j = (l.length - 1 - j) + 1 by omega, take_snoc' hre, show l.length - (j + 1) = l.length - 1 - j by omega])
      obtain ⟨fn, tmps, assign, body, hy, hRd⟩ := hY 2 _ own (x, j) wr hJr hob trivial (fun _ h => h.elim) ⟨(revEnum l).drop (l.length - j), by rw [HTK.out, List.take_append_drop]⟩
      have jn : (j : Int) < (n : Int) := by omega
      have j0 : (0 : Int) ≤ (j : Int) := by omega
      have jw : IntKind.i64.wrap ((j : Int) - 1) = (j : Int) - 1 := wrap_in (by omega) (by omega)
      obtain ⟨xo, xf, xe⟩ := x
      simp only [scA] at s0 s1 s2 hy hRd HTK
      have HJJ := Lib.hid hj
      have HOB := Lib.hid hob
      have HKR := Lib.hid hkr
      have HSM := Lib.hid hsm
      have HSZ2 := Lib.hid hsz
      clear hx hre hri hJr hob hkr hsm hnl hj hsz c0 e0
      gi_wp2
      refine hRd.mono ?_
      rintro e W4 ⟨rfl, own4, hJ4, hs1, hs2, hs3⟩
      rw [HTK.out] at hJ4
      have HJ4 := Lib.hid hJ4
      have HS1 := Lib.hid hs1
      have HS2 := Lib.hid hs2
      have HS3 := Lib.hid hs3
      clear hJ4 hs1 hs2 hs3 hRd hy
      gi_wp2
      go_roundw
      case rel => exact ⟨j, own4, by first | rfl | go_num, by have := HJJ.out; omega, HJ4.out, fun k hk => (HS3.out k hk).2, fun k hk h4 => by
          rcases (HS3.out k h4).1 with h5 | h5 | h5
          · exact HKR.out k hk h5
          · exact h5
          · have := hk.1; have := HSZ.out; have := HSZ2.out; omega, fun k hk => (HS2.out k (Nat.lt_of_lt_of_le hk.1 (Nat.le_trans HSZ.out HSZ2.out)) (HKR.out k hk)).trans (HSM.out k hk), Nat.le_trans HSZ2.out HS1.out⟩
      case measure => simp [intOf]
end
section
open Go.Shelf Go.ChangeShapes Go.WideShapes Go.ChangeAt Go.RowKit
set_option linter.unusedSimpArgs false
set_option linter.unusedVariables false
/-- What can be observed: the office, the kind, the time, the label, the contents. -/
structure Ob where
  off : Int
  ki : Int
  ti : Int
  lab : ByteArray
  con : List ByteArray
/-- What can be observed at a stop. -/
def stopO (ts : List Trk) (n i : Nat) (t : Trk) (j : Nat) (s : Stp) : List Ob :=
  ⟨s.of_, 1, s.ar, labR s.ar t.si t.lb, []⟩ :: (match t.se[j]? with
    | none => []
    | some q => match allC ts n q with
      | none => []
      | some c => if c.tr = i ∧ c.sp = j then [⟨s.of_, 2, s.de, q, contF ts c.fr.de c.ins⟩, ⟨c.to_.of_, 1, c.to_.ar, q, []⟩] else [])
def rowO (ts : List Trk) (n i : Nat) (t : Trk) : Nat → List Ob
  | 0 => []
  | j + 1 => rowO ts n i t j ++ (match t.st[j]? with
    | some s => stopO ts n i t j s
    | none => [])
def obsO (ts : List Trk) (n : Nat) : Nat → List Ob
  | 0 => []
  | k + 1 => obsO ts n k ++ (match ts[k]? with
    | some t => rowO ts n k t t.st.length
    | none => [])
theorem rowO_succ {ts : List Trk} {n i j : Nat} {t : Trk} {s : Stp} (h : t.st[j]? = some s) : rowO ts n i t (j + 1) = rowO ts n i t j ++ stopO ts n i t j s := by simp only [rowO, h]
theorem obsO_succ {ts : List Trk} {n k : Nat} {t : Trk} (h : ts[k]? = some t) : obsO ts n (k + 1) = obsO ts n k ++ rowO ts n k t t.st.length := by simp only [obsO, h]
theorem rowO_pre (ts : List Trk) (n i : Nat) (t : Trk) (j : Nat) : ∀ d, ∃ r, rowO ts n i t (j + d) = rowO ts n i t j ++ r := by
  intro d
  induction d with
  | zero => exact ⟨[], by simp⟩
  | succ d ih =>
    obtain ⟨r, hr⟩ := ih
    refine ⟨r ++ (match t.st[j + d]? with | some s => stopO ts n i t (j + d) s | none => []), ?_⟩
    rw [← List.append_assoc, ← hr]; rfl
theorem obsO_pre (ts : List Trk) (n k : Nat) : ∀ d, ∃ r, obsO ts n (k + d) = obsO ts n k ++ r := by
  intro d
  induction d with
  | zero => exact ⟨[], by simp⟩
  | succ d ih =>
    obtain ⟨r, hr⟩ := ih
    refine ⟨r ++ (match ts[k + d]? with | some t => rowO ts n (k + d) t t.st.length | none => []), ?_⟩
    rw [← List.append_assoc, ← hr]; rfl
/-- All that is observed begins with what is observed up to a stop. -/
theorem obs_split {ts : List Trk} {n k j : Nat} {t : Trk} {s : Stp} (hk : ts[k]? = some t) (hj : t.st[j]? = some s) (hn : n = ts.length) : ∃ r, obsO ts n n = obsO ts n k ++ rowO ts n k t j ++ stopO ts n k t j s ++ r := by
  have hkn := (List.getElem?_eq_some_iff.1 hk).1
  have hjn := (List.getElem?_eq_some_iff.1 hj).1
  obtain ⟨r1, h1⟩ := obsO_pre ts n (k + 1) (n - (k + 1))
  obtain ⟨r2, h2⟩ := rowO_pre ts n k t (j + 1) (t.st.length - (j + 1))
  rw [show k + 1 + (n - (k + 1)) = n by omega, obsO_succ hk] at h1
  rw [show j + 1 + (t.st.length - (j + 1)) = t.st.length by omega, rowO_succ hj] at h2
  exact ⟨r2 ++ r1, by rw [h1, h2]; simp⟩
/-- What is known of a container. -/
structure ConOk (ts : List Trk) (q : ByteArray) (c : Con) : Prop where
  few : c.ins.length ≤ 40
  ins : ∀ i ∈ c.ins, ∃ m : Nat, i = (m : Int) ∧ ∃ t, ts[m]? = some t ∧ q ∈ t.se
  first : ∃ t, ts[c.tr]? = some t ∧ t.st[c.sp]? = some c.fr ∧ t.se[c.sp]? = some q
theorem addIn_ok {ts : List Trk} {q : ByteArray} {c : Con} {m : Nat} {t : Trk} (h : ConOk ts q c) (hm : ts[m]? = some t) (hq : q ∈ t.se) : ConOk ts q (addIn (m : Int) c) := by
  unfold addIn
  split
  · rename_i hc
    refine ⟨by simp; omega, fun i hi => ?_, h.first⟩
    rcases List.mem_append.1 hi with h1 | h1
    · exact h.ins i h1
    · rw [List.mem_singleton] at h1
      exact ⟨m, h1, t, hm, hq⟩
  · exact h
theorem rowC_ok {ts : List Trk} {k : Nat} {t : Trk} {g : ByteArray → Option Con} (hk : ts[k]? = some t) (hl : t.st.length = t.se.length + 1) (hg : ∀ q c, g q = some c → ConOk ts q c) : ∀ j q c, rowC t k g j q = some c → ConOk ts q c := by
  intro j
  induction j with
  | zero => exact hg
  | succ j ih =>
    intro q c h
    cases hs : t.se[j]? with
    | none => simp only [rowC, hs] at h; exact ih q c h
    | some s =>
      rw [rowC_succ hs] at h
      unfold stepC at h
      split at h
      · rename_i e
        subst e
        cases h
        have hlt := (List.getElem?_eq_some_iff.1 hs).1
        refine addIn_ok ?_ hk (List.mem_of_getElem? hs)
        cases hq : rowC t k g j q with
        | some c => exact ih q c hq
        | none =>
          obtain ⟨p, hp⟩ : ∃ p, t.st[j]? = some p := ⟨_, List.getElem?_eq_getElem (by omega)⟩
          refine ⟨by simp [newC], fun i hi => by simp [newC] at hi, t, hk, ?_, hs⟩
          simp only [Option.getD_none, newC, hp, Option.getD_some]
      · exact ih q c h
theorem allC_ok {ts : List Trk} (hl : ∀ t ∈ ts, t.st.length = t.se.length + 1) : ∀ k q c, allC ts k q = some c → ConOk ts q c := by
  intro k
  induction k with
  | zero => intro q c h; cases h
  | succ k ih =>
    cases hk : ts[k]? with
    | none => intro q c h; simp only [allC, hk] at h; exact ih q c h
    | some t =>
      rw [allC_succ hk]
      exact rowC_ok hk (hl t (List.mem_of_getElem? hk)) ih _
theorem rowC_some {t : Trk} {k : Nat} {g : ByteArray → Option Con} {q : ByteArray} : ∀ j, ((g q).isSome ∨ ∃ i, i < j ∧ t.se[i]? = some q) → (rowC t k g j q).isSome := by
  intro j
  induction j with
  | zero => intro h; rcases h with h | ⟨i, h, _⟩
            · exact h
            · omega
  | succ j ih =>
    intro h
    cases hs : t.se[j]? with
    | none =>
      simp only [rowC, hs]
      refine ih ?_
      rcases h with h | ⟨i, h1, h2⟩
      · exact .inl h
      · refine .inr ⟨i, ?_, h2⟩
        rcases Nat.lt_or_ge i j with h3 | h3
        · exact h3
        · have : i = j := by omega
          subst this
          rw [hs] at h2; cases h2
    | some s =>
      rw [rowC_succ hs]
      unfold stepC
      split
      · rfl
      · rename_i hne
        refine ih ?_
        rcases h with h | ⟨i, h1, h2⟩
        · exact .inl h
        · refine .inr ⟨i, ?_, h2⟩
          rcases Nat.lt_or_ge i j with h3 | h3
          · exact h3
          · have : i = j := by omega
            subst this
            rw [hs] at h2; cases h2; exact absurd rfl hne
theorem allC_some {ts : List Trk} {q : ByteArray} : ∀ k, (∃ m t, m < k ∧ ts[m]? = some t ∧ q ∈ t.se) → (allC ts k q).isSome := by
  intro k
  induction k with
  | zero => rintro ⟨m, t, h, _⟩; omega
  | succ k ih =>
    rintro ⟨m, t, hm, ht, hq⟩
    cases hk : ts[k]? with
    | none =>
      simp only [allC, hk]
      refine ih ⟨m, t, ?_, ht, hq⟩
      rcases Nat.lt_or_ge m k with h3 | h3
      · exact h3
      · have : m = k := by omega
        subst this
        rw [hk] at ht; cases ht
    | some t' =>
      rw [allC_succ hk]
      refine rowC_some _ ?_
      rcases Nat.lt_or_ge m k with h3 | h3
      · exact .inl (ih ⟨m, t, h3, ht, hq⟩)
      · have : m = k := by omega
        subst this
        rw [hk] at ht
        cases ht
        obtain ⟨i, hi⟩ := List.mem_iff_getElem?.1 hq
        exact .inr ⟨i, (List.getElem?_eq_some_iff.1 hi).1, hi⟩
end
section
open Go.Shelf Go.ChangeShapes Go.WideShapes Go.ChangeAt Go.RowKit
set_option linter.unusedSimpArgs false
set_option linter.unusedVariables false
/-- An observation, and where the header of its contents leads. -/
structure Obs where
  ob : Ob
  A : Option Addr
  c : Nat
abbrev encO (x : Obs) : Array Value := #[.agg #[.int .i64 0, .int .i64 0, .int .i64 x.ob.ki, .int .i64 x.ob.ti, .string x.ob.lab, .slice x.A x.ob.con.length x.c, .int .i64 x.ob.off]]
def givO (x : Obs) (k : Nat) : Prop := x.ob.con ≠ [] ∧ ∃ off, x.A = some ⟨k, off, none⟩
def PrO (x : Obs) (W : World) : Prop := RecIn strR W W.heap.size x.A x.ob.con
theorem obsv37 (A : Option Addr) (m c : Nat) (w : World) : Calls Tryz.prog 37 #[.slice A m c] w fun e w' => e = .returned (.func (.func 89) #[] #[.pointer (some ⟨w.heap.size, 0, none⟩)]) ∧ w' = w.alloc (.cells #[.slice A m c] 47) := by
  go_enter Tryz.func37, Tryz.ntmps37
  go_wp2
  go_ret
  exact ⟨rfl, rfl⟩
set_option maxRecDepth 100000 in
set_option maxHeartbeats 4000000 in
theorem see91 (x : Obs) (lo yb : Nat) (W : World) (R : World → Prop) (hyb : Blk W yb 187 #[.func (.yield lo) #[] #[]])
    (hY : YieldAt Fence.wide 2 Tryz.prog lo (encO x) (W.alloc (.cells #[.int .i64 0, .int .i64 0, .int .i64 x.ob.ki, .int .i64 x.ob.ti, .string x.ob.lab, .slice x.A x.ob.con.length x.c] 26)) fun e W' => e = .returned (.bool true) ∧ R W') :
    Calls Tryz.prog 91 #[.int .i64 x.ob.off, .int .i64 x.ob.ki, .int .i64 x.ob.ti, .string x.ob.lab, .slice x.A x.ob.con.length x.c, .pointer (some ⟨yb, 0, none⟩)] W fun e W' => e = .returned (.bool true) ∧ R W' := by
  obtain ⟨⟨xo, xk, xt, xl, xc⟩, xA, xz⟩ := x
  simp only [encO] at hY ⊢
  generalize xc.length = q at hY ⊢
  have c0 := (hyb.alloc (.cells #[.int .i64 0, .int .i64 0, .int .i64 xk, .int .i64 xt, .string xl, .slice xA q xz] 26)).cell 0
  have hB := Blk.new W 26 #[.int .i64 0, .int .i64 0, .int .i64 xk, .int .i64 xt, .string xl, .slice xA q xz]
  have b0 := hB.cell 0; have b1 := hB.cell 1; have b2 := hB.cell 2; have b3 := hB.cell 3; have b4 := hB.cell 4; have b5 := hB.cell 5
  obtain ⟨fn, tmps, assign, body, hy, hRd⟩ := hY
  clear hyb hB
  refine (callsIn_wide (n := 3)).1 ?_
  refine callsIn_of_wp Tryz.func91 rfl trivial ?_ rfl
  simp only [Tryz.ntmps91, List.size_toArray, List.length_cons, List.length_nil, Nat.reduceAdd, Nat.reduceSub, Array.replicate_succ, Array.replicate_zero, List.push_toArray, List.append_toArray, List.nil_append, List.cons_append]
  gi_wp2
  refine hRd.mono ?_
  rintro e W4 ⟨rfl, hR⟩
  have HR := Lib.hid hR
  clear hR hRd hy
  gi_wp2
  go_ret
  exact ⟨rfl, HR.out⟩
end
section
open Go.Shelf Go.ChangeShapes Go.WideShapes Go.ChangeAt Go.RowKit
set_option linter.unusedSimpArgs false
set_option linter.unusedVariables false
/-- From A on, what was there and was not the body's own is there still, and is not the body's own. -/
def Rel (A : World) (o o' : Nat → Prop) (B : World) : Prop := A.heap.size ≤ B.heap.size ∧ ∀ k, k < A.heap.size → ¬ o k → B.heap[k]? = A.heap[k]? ∧ ¬ o' k
theorem Rel.keeps {A B : World} {o : Nat → Prop} (h : Keeps A B) : Rel A o o B := ⟨h.size, fun k hk ho => ⟨h.block k hk, ho⟩⟩
theorem Rel.trans {A B C : World} {o o1 o2 : Nat → Prop} (h : Rel A o o1 B) (k : Rel B o1 o2 C) : Rel A o o2 C :=
  ⟨Nat.le_trans h.1 k.1, fun i hi ho => by
    obtain ⟨h1, h2⟩ := h.2 i hi ho
    obtain ⟨k1, k2⟩ := k.2 i (Nat.lt_of_lt_of_le hi h.1) h2
    exact ⟨k1.trans h1, k2⟩⟩
theorem Rel.step {Y A B : World} {o0 o o' gv : Nat → Prop} (h : Rel Y o0 o A) (k : OwnStep o o' gv A B) (hg : ∀ i, gv i → Y.heap.size ≤ i) : Rel Y o0 o' B :=
  ⟨Nat.le_trans h.1 k.1, fun i hi ho => by
    obtain ⟨h1, h2⟩ := h.2 i hi ho
    refine ⟨(k.2.1 i (Nat.lt_of_lt_of_le hi h.1) h2).trans h1, fun e => ?_⟩
    rcases (k.2.2 i e).1 with h3 | h3 | h3
    · exact h2 h3
    · have := hg i h3; omega
    · have := h.1; omega⟩
theorem Blk.rel {A B : World} {o o' : Nat → Prop} {g : Nat} {t : TypeId} {cs : Array Value} (h : Blk A g t cs) (hr : Rel A o o' B) (ho : ¬ o g) : Blk B g t cs := (hr.2 g h.lt ho).1.trans h
theorem RecIn.rel {α : Type} {R : RowTy α} {w w' : World} {N : Nat} {A : Option Addr} {l : List α} {o o' : Nat → Prop} (h : RecIn R w N A l) (hr : Rel w o o' w') (hN : N ≤ w.heap.size) (hlo : ∀ k, k < N → ¬ o k) : RecIn R w' N A l := fun j x hj => by
  obtain ⟨b, off, e, hb, hc⟩ := h j x hj
  refine ⟨b, off, e, hb, fun i u hu => ?_⟩
  have := hc i u hu
  rw [← this]
  unfold World.cell?
  simp only [(hr.2 b (by omega) (hlo b hb)).1]
theorem RecIn.rel1 {α : Type} {R : RowTy α} {w w' : World} {A : Option Addr} {l : List α} {o o' : Nat → Prop} (h : RecIn R w w.heap.size A l) (hr : Rel w o o' w') (hn : ∀ k off, A = some ⟨k, off, none⟩ → l ≠ [] → ¬ o k) : RecIn R w' w'.heap.size A l := fun j x hj => by
  obtain ⟨b, off, e, hb, hc⟩ := h j x hj
  refine ⟨b, off, e, Nat.lt_of_lt_of_le hb hr.1, fun i u hu => ?_⟩
  have := hc i u hu
  rw [← this]
  unfold World.cell?
  simp only [(hr.2 b hb (hn b off e (fun e2 => by rw [e2] at hj; simp at hj))).1]
theorem TrkOk.rel {w w' : World} {N : Nat} {t : Trk} {o o' : Nat → Prop} (h : TrkOk w N t) (hr : Rel w o o' w') (hN : N ≤ w.heap.size) (hlo : ∀ k, k < N → ¬ o k) : TrkOk w' N t := ⟨h.st.rel hr hN hlo, h.si.rel hr hN hlo, h.lb.rel hr hN hlo, h.se.rel hr hN hlo⟩
theorem TrkOk.more {w : World} {N N' : Nat} {t : Trk} (h : TrkOk w N t) (hN : N ≤ N') : TrkOk w N' t := ⟨h.st.more hN, h.si.more hN, h.lb.more hN, h.se.more hN⟩
/-- The containers, beside blocks of the body's own. -/
structure ConsR (Y : World) (m : Nat) (F : ByteArray → Option Cel) (o : Nat → Prop) : Prop where
  map : MapTo sv sEq Y m (fun s => (F s).map fun x => .pointer (some ⟨x.b, 0, none⟩))
  blk : ∀ s x, F s = some x → Blk Y x.b 195 (conCells x.con (celV x))
  ins : ∀ s x, F s = some x → RecIn intR Y Y.heap.size x.A x.con.ins
  nm : ¬ o m
  nb : ∀ s x, F s = some x → ¬ o x.b
  ni : ∀ s x k off, F s = some x → x.A = some ⟨k, off, none⟩ → x.con.ins ≠ [] → ¬ o k
theorem ConsR.of {w0 W : World} {m : Nat} {F : ByteArray → Option Cel} {o : Nat → Prop} (h : Cons w0 W m F) (ho : ∀ k, o k → k < w0.heap.size) : ConsR W m F o := by
  have hins : ∀ s x, F s = some x → RecIn intR W W.heap.size x.A x.con.ins := fun s x e => RecIn.of_own intOk (h.own s x e) rfl
  refine ⟨h.map, h.blk, hins, fun e => ?_, fun s x e e2 => ?_, fun s x k off e e2 e3 e4 => ?_⟩
  · have := ho _ e; have := h.new; omega
  · have := ho _ e2; have := h.lo s x e; omega
  · have h1 := ho _ e4
    have h2 := (own_lt (h.own s x e) (show (celV x).ownBlock = some k from by
      have hown := (h.own s x e).2
      rcases hown with ⟨hv, hn⟩ | ⟨g, cap, cur, hv, _⟩
      · exact absurd (List.eq_nil_of_length_eq_zero hn) e3
      · simp only [celV] at hv
        injection hv with hv1 hv2 hv3
        rw [e2] at hv1
        injection hv1 with hv1
        injection hv1 with hv4 hv5
        simp only [celV, e2, hv4, hv5]
        rfl)).1
    omega
theorem ConsR.rel {Y Z : World} {m : Nat} {F : ByteArray → Option Cel} {o o' : Nat → Prop} (h : ConsR Y m F o) (hr : Rel Y o o' Z) : ConsR Z m F o' :=
  ⟨h.map.same (hr.2 m h.map.lt h.nm).1, fun s x e => (h.blk s x e).rel hr (h.nb s x e), fun s x e => (h.ins s x e).rel1 hr (fun k off e1 e2 => h.ni s x k off e e1 e2), (hr.2 m h.map.lt h.nm).2, fun s x e => (hr.2 x.b (h.blk s x e).lt (h.nb s x e)).2, fun s x k off e e1 e2 => by
    obtain ⟨y, hy⟩ := List.exists_mem_of_ne_nil _ e2
    obtain ⟨j, hj⟩ := List.mem_iff_getElem?.1 hy
    obtain ⟨b, of2, e3, hb, _⟩ := h.ins s x e j y hj
    rw [e1] at e3; cases e3
    exact (hr.2 k hb (h.ni s x k off e e1 e2)).2⟩
theorem ConsR.look1 {Y : World} {m : Nat} {F : ByteArray → Option Cel} {o : Nat → Prop} (h : ConsR Y m F o) (s : ByteArray) {x : Cel} (e : F s = some x) : (Instr.lookup 188 (.map (some m)) (.string s) false).run Tryz.prog Y = .ok (.pointer (some ⟨x.b, 0, none⟩)) Y := by
  have := MapTo.look (strKeys Tryz.underlying9) Tryz.underlying188 false h.map (.pointer none) (by kernel_rfl) s
  rw [this, e]
  rfl
/-- What the iterator leans on. -/
structure ObI (N mb yb lo : Nat) (tA : Option Addr) (n c : Nat) (ts : List Trk) (m : Nat) (F : ByteArray → Option Cel) (Y : World) (o : Nat → Prop) : Prop where
  tr : RecIn tkR Y N tA ts
  ok : ∀ t ∈ ts, TrkOk Y N t
  low : ∀ k, k < N → ¬ o k
  le : N ≤ Y.heap.size
  hmb : Blk Y mb 47 #[.slice tA n c]
  nmb : ¬ o mb
  hyb : Blk Y yb 187 #[.func (.yield lo) #[] #[]]
  nyb : ¬ o yb
  con : ConsR Y m F o
theorem ObI.rel {N mb yb lo : Nat} {tA : Option Addr} {n c : Nat} {ts : List Trk} {m : Nat} {F : ByteArray → Option Cel} {Y Z : World} {o o' : Nat → Prop} (h : ObI N mb yb lo tA n c ts m F Y o) (hr : Rel Y o o' Z) : ObI N mb yb lo tA n c ts m F Z o' :=
  ⟨h.tr.rel hr h.le h.low, fun t ht => (h.ok t ht).rel hr h.le h.low, fun k hk => (hr.2 k (Nat.lt_of_lt_of_le hk h.le) (h.low k hk)).2, Nat.le_trans h.le hr.1, h.hmb.rel hr h.nmb, (hr.2 mb h.hmb.lt h.nmb).2, h.hyb.rel hr h.nyb, (hr.2 yb h.hyb.lt h.nyb).2, h.con.rel hr⟩
/-- How a sight is handed over. -/
def SeeR (J : List Obs → (Nat → Prop) → World → Prop) (xs : List Obs) (X : World) (own : Nat → Prop) (W' : World) : Prop := ∃ own', J xs own' W' ∧ Rel X own own' W' ∧ ∀ k, own' k → k < W'.heap.size
theorem see_step {J : List Obs → (Nat → Prop) → World → Prop} {Z lo yb : Nat} {T : List Obs → Prop} (x : Obs) {X2 X : World} {pre : List Obs} {own : Nat → Prop} (hab : AbideO Z J) (hJ : J pre own X2) (hb : ∀ k, own k → k < X2.heap.size)
    (hY : ∀ (m : Nat) pre own x W1, J pre own W1 → (∀ k, own k → k < W1.heap.size) → PrO x W1 → (∀ k, givO x k → ¬ own k ∧ k < W1.heap.size) → T (pre ++ [x]) → YieldAt Fence.wide m Tryz.prog lo (encO x) W1 fun e W' => e = .returned (.bool true) ∧ ∃ own', J (pre ++ [x]) own' W' ∧ OwnStep own own' (givO x) W1 W')
    (hyb : Blk X2 yb 187 #[.func (.yield lo) #[] #[]]) (hX : Keeps X2 X) (hPr : PrO x X) (hg : ∀ k, givO x k → X2.heap.size ≤ k ∧ k < X.heap.size) (hT : T (pre ++ [x])) :
    Calls Tryz.prog 91 #[.int .i64 x.ob.off, .int .i64 x.ob.ki, .int .i64 x.ob.ti, .string x.ob.lab, .slice x.A x.ob.con.length x.c, .pointer (some ⟨yb, 0, none⟩)] X fun e W' => e = .returned (.bool true) ∧ SeeR J (pre ++ [x]) X2 own W' := by
  have k1 := hX.alloc (.cells #[.int .i64 0, .int .i64 0, .int .i64 x.ob.ki, .int .i64 x.ob.ti, .string x.ob.lab, .slice x.A x.ob.con.length x.c] 26)
  have k2 := (Keeps.refl X).alloc (.cells #[.int .i64 0, .int .i64 0, .int .i64 x.ob.ki, .int .i64 x.ob.ti, .string x.ob.lab, .slice x.A x.ob.con.length x.c] 26)
  refine see91 x lo yb X _ (hyb.below hX hyb.lt) ?_
  obtain ⟨fn, tmps, assign, body, hy, hRd⟩ := hY 2 pre own x _ (hab.keeps hJ k1) (fun k hk => Nat.lt_of_lt_of_le (hb k hk) k1.size) (RecIn.keep hPr k2) (fun k hk => ⟨fun e => by have := hb k e; have := (hg k hk).1; omega, Nat.lt_of_lt_of_le (hg k hk).2 k2.size⟩) hT
  refine ⟨fn, tmps, assign, body, hy, hRd.mono ?_⟩
  rintro e W' ⟨he, own', hJ', hs⟩
  exact ⟨he, own', hJ', (Rel.keeps k1).step hs (fun k hk => (hg k hk).1), fun k hk => (hs.2.2 k hk).2⟩
end
end Go.Proofs.YthkmpegpmpdhaaaGreatDoor
