/-
  A law for 'for x := range seq' where the caller's own invariant bounds the number of rounds: the iterator may go on for ever, the body leaves by a break. Conditions: as stated in the law.
-/
import Derived.RangeFuncNested
import Derived.RangeFuncCalls
import Derived.RangeFuncLeaves
import Derived.RangeFuncWrites
namespace Go.Proofs.Ytajobinkabdmkaa
open Go.RowKit
variable {F : Fence} {n : Nat} {P : Program}

/-- Block g holds the row of the slice in the box b8. -/
def RowOf (b8 : Nat) (W : World) (g : Nat) : Prop := ∃ n c, W.cell? ⟨b8, 0, none⟩ = some (.slice (some ⟨g, 0, none⟩) n c)
/-- Blocks below Z, and the row of the slice in the box b8, are as they were. -/
structure Turn (b8 Z : Nat) (A B : World) : Prop where
  os : B.os = A.os
  tape : B.tape = A.tape
  output : B.output = A.output
  size : A.heap.size ≤ B.heap.size
  same : ∀ k, k < A.heap.size → (k < Z ∨ RowOf b8 A k) → B.heap[k]? = A.heap[k]?
/-- What a round keeps: blocks below n₀; and every block of the kind kp that is not the row of the slice in the box b8. -/
structure Rnd (b8 n₀ : Nat) (kp : Nat → Prop) (A B : World) : Prop where
  low : Below n₀ A B
  other : ∀ k, kp k → k < A.heap.size → ¬ RowOf b8 A k → B.heap[k]? = A.heap[k]? ∧ ¬ RowOf b8 B k
theorem Rnd.trans {b8 n₀ : Nat} {kp : Nat → Prop} {A B C : World} (h : Rnd b8 n₀ kp A B) (k : Rnd b8 n₀ kp B C) : Rnd b8 n₀ kp A C :=
  ⟨h.low.trans k.low, fun i h1 h2 h3 => by
    obtain ⟨e, r⟩ := h.other i h1 h2 h3
    obtain ⟨e', r'⟩ := k.other i h1 (Nat.lt_of_lt_of_le h2 h.low.size) r
    exact ⟨e'.trans e, r'⟩⟩
/-- What an iterator may lean on of a caller whose rounds are fewer than N. -/
def RndOk {α : Type} (b8 N : Nat) (e₀ : TypeId) (J : List α → World → Prop) : Prop := ∀ pre W, J pre W → pre.length < N ∧ ∀ g, RowOf b8 W g → ∃ cs fr, W.heap[g]? = some (.cells cs e₀ fr)

/-- What an iterator owes to a caller whose rounds are fewer than N by the caller's own invariant. -/
def SeqB {α : Type} (F : Fence) (n : Nat) (P : Program) (g : Nat) (lb : Array Value) (encs : α → Array Value) (b8 n₀ : Nat) (kp : Nat → Prop) (S Sp : List α → Prop) (N : Nat) (e₀ : TypeId) (w : World) : Prop :=
  ∀ (l : Nat) (J Jx : List α → World → Prop) (W : World), Below w.heap.size w W → (∀ k, W.heap.size ≤ k → kp k) → (∀ pre A B, J pre A → Turn b8 W.heap.size A B → J pre B) → RndOk b8 N e₀ J →
    (∀ pre x W1, J pre W1 → YieldAt F (n - 1) P l (encs x) W1 fun e W' =>
      (e = .returned (.bool true) ∧ J (pre ++ [x]) W' ∧ Rnd b8 n₀ kp W1 W') ∨ (e = .returned (.bool false) ∧ Jx (pre ++ [x]) W')) →
    J [] W →
    CallsIn F n P g (#[.func (.yield l) #[] #[]] ++ lb) W fun e W' => (∃ v, e = .returned v) ∧ ((∃ xs, S xs ∧ J xs W') ∨ (∃ pre, Sp pre ∧ Jx pre W'))

/-- How a round is left: it goes on, or it leaves by the jump 'exit id'. -/
def seqBPost {α : Type} (b8 B n₀ : Nat) (kp : Nat → Prop) (id : Nat) (I Ix : List α → World → Prop) (xs : List α) (W : World) : Exit → Act → World → Prop
  | .normal, _, W' => KeepsFrom B W W' ∧ Rnd b8 n₀ kp W W' ∧ I xs W'
  | .exit i, _, W' => i = id ∧ KeepsFrom B W W' ∧ Ix xs W'
  | _, _, _ => False

theorem below_putObj {n₀ l : Nat} (W : World) (o : Obj) (h : n₀ ≤ l) : Below n₀ W (W.putObj l o) :=
  ⟨rfl, rfl, rfl, by simp, fun k hk => World.putObj_heap_other (by omega)⟩
theorem keepsFrom_alloc {B : Nat} (W : World) (o : Obj) : KeepsFrom B W (W.alloc o) := (KeepsOthers.alloc W o).from B

theorem turn_alloc {b8 Z : Nat} (A : World) (o : Obj) : Turn b8 Z A (A.alloc o) := ⟨rfl, rfl, rfl, by simp, fun k hk _ => Below.heap_alloc A o k hk⟩
theorem turn_putObj {b8 Z l : Nat} (A : World) (o : Obj) (hl : Z ≤ l) (hr : ¬ RowOf b8 A l) : Turn b8 Z A (A.putObj l o) :=
  ⟨rfl, rfl, rfl, by simp, fun k _ h => World.putObj_heap_other (by
    rcases h with h | h
    · omega
    · intro e; subst e; exact hr h)⟩
theorem rowOf_same {b8 : Nat} {A B : World} (h : B.heap[b8]? = A.heap[b8]?) (g : Nat) : RowOf b8 B g ↔ RowOf b8 A g := by
  unfold RowOf
  have : B.cell? ⟨b8, 0, none⟩ = A.cell? ⟨b8, 0, none⟩ := World.cell?_of_block h
  rw [this]
theorem rnd_of_same {b8 n₀ : Nat} {kp : Nat → Prop} {A B : World} (hb : Below n₀ A B) (h8 : B.heap[b8]? = A.heap[b8]?) (h : ∀ k, kp k → k < A.heap.size → B.heap[k]? = A.heap[k]?) : Rnd b8 n₀ kp A B :=
  ⟨hb, fun k h1 h2 h3 => ⟨h k h1 h2, fun r => h3 ((rowOf_same h8 k).1 r)⟩⟩

theorem turn_same {b8 Z : Nat} {A B : World} (h : Below A.heap.size A B) : Turn b8 Z A B := ⟨h.os, h.tape, h.output, h.size, fun k hk _ => h.block k hk⟩
theorem turn_setCell {b8 Z : Nat} (A : World) (p : Addr) (v : Value) (hl : Z ≤ p.block) (hr : ¬ RowOf b8 A p.block) : Turn b8 Z A (A.setCell p v) :=
  ⟨rfl, rfl, rfl, by simp [World.setCell], fun k _ h => Below.heap_setCell A p v k (by
    rcases h with h | h
    · omega
    · intro e; subst e; exact hr h)⟩
theorem Turn.trans {b8 Z : Nat} {A B C : World} (h : Turn b8 Z A B) (k : Turn b8 Z B C) (hr : ∀ g, RowOf b8 A g → RowOf b8 B g) : Turn b8 Z A C :=
  ⟨k.os.trans h.os, k.tape.trans h.tape, k.output.trans h.output, Nat.le_trans h.size k.size, fun i hi hz => (k.same i (Nat.lt_of_lt_of_le hi h.size) (hz.imp (fun x => x) (hr i))).trans (h.same i hi hz)⟩

theorem range_seqB {α : Type} {g : Operand} {ps : Array Tmp} {assign body : Code} {Q : Exit → Act → World → Prop} {a : Act} {w : World}
    (hro : F.round = none) (h1 : 1 ≤ n) {gf : Nat} {lb : Array Value} (hg : a.eval g = .func (.func gf) #[] lb) (hFg : F.fn gf) (eg : ∀ args w, (callFunc gf args).run P w = .ok (.enter gf args) w)
    {encs : α → Array Value} {b8 n₀ : Nat} {S Sp : List α → Prop} {N : Nat} {e₀ : TypeId} {kp : Nat → Prop} (hseq : SeqB F (n - 1) P gf lb encs b8 n₀ kp S Sp N e₀ w) (hkp : ∀ k, kp k → k ≠ w.heap.size + 1) (hkp' : ∀ k, w.heap.size + 2 ≤ k → kp k) (hb8 : b8 < w.heap.size) (hn₀ : n₀ ≤ w.heap.size) (hps : ∀ x, (encs x).size = ps.size) (id : Nat)
    (I Ix : List α → World → Prop) (hI : ∀ pre A B, I pre A → Turn b8 w.heap.size A B → I pre B) (hIx : ∀ pre A l o, Ix pre A → w.heap.size ≤ l → Ix pre (A.putObj l o)) (hN : RndOk b8 N e₀ I) (h0 : I [] w)
    (t : TypeId) (cs : α → Array Value) (a₁ : α → Nat → Act)
    (hassign : ∀ (l : Nat) (x : α) (W : World) (K : Act → World → Prop), K (a₁ x W.heap.size) (W.alloc (.cells (cs x) t)) →
      assign.wpIn (F.inRound l) (n - 1 - 1) P (Exit.then K (fun _ _ _ => False)) { tmps := (ps.zip (encs x)).foldl (fun t (p, v) => t.setIfInBounds p v) a.tmps, defers := [] } W)
    (hbody : ∀ (l : Nat) (pre : List α) (x : α) (B : Nat) (W : World), I pre W → w.heap.size ≤ B → W.heap[B]? = some (.cells (cs x) t (0, 0)) →
      body.wpIn (F.inRound l) (n - 1 - 1) P (seqBPost b8 w.heap.size n₀ kp id I Ix (pre ++ [x]) W) (a₁ x B) W)
    (hdone : ∀ (D : Nat) (xs : List α) (W : World), w.heap.size ≤ D → S xs → I xs W → W.heap[D]? = some (.deferred (some [])) → Q .normal { a with defers := { target := .collected D, args := #[] } :: a.defers } W)
    (hstop : ∀ (D : Nat) (pre : List α) (W : World), w.heap.size ≤ D → Sp pre → Ix pre W → W.heap[D]? = some (.deferred (some [])) → (Code.exit id).wpIn F n P Q { a with defers := { target := .collected D, args := #[] } :: a.defers } W) :
    (Code.rangeFunc g ps assign body).wpIn F n P Q a w := by
  refine wpIn_rangeFunc fun fn hfn => ?_
  rw [hro]
  -- the record and the block for the rounds' deferred calls
  obtain ⟨rec, hrec⟩ : ∃ rec : LoopState → Option Code → Loop, rec = fun st pe => { state := st, pending := pe, fn, tmps := a.tmps, params := ps, assign, body, defers := w.heap.size } := ⟨_, rfl⟩
  have hparams : ∀ st pe, (rec st pe).params = ps := fun st pe => by rw [hrec]
  have hA := World.alloc_heap_new w (.deferred (some []))
  have hB := World.alloc_heap_new (w.alloc (.deferred (some []))) (.loop (rec .ready none))
  rw [World.size_alloc] at hB
  have hA2 : ((w.alloc (.deferred (some []))).alloc (.loop (rec .ready none))).heap[w.heap.size]? = some (.deferred (some [])) := (Below.heap_alloc _ _ _ (by simp)).trans hA
  have hI2 : I [] ((w.alloc (.deferred (some []))).alloc (.loop (rec .ready none))) := hI _ _ _ (hI _ _ _ h0 (turn_alloc _ _)) (turn_alloc _ _)
  have hW2 : Below w.heap.size w ((w.alloc (.deferred (some []))).alloc (.loop (rec .ready none))) := ((Below.refl _ w).alloc (Nat.le_refl _) _).alloc (by simp) _
  have hsz : ((w.alloc (.deferred (some []))).alloc (.loop (rec .ready none))).heap.size = w.heap.size + 2 := by simp
  have hent : (Instr.enterLoop fn a.tmps ps assign body none).run P w = .ok (w.heap.size + 1, [{ target := .collected w.heap.size, args := #[] }]) ((w.alloc (.deferred (some []))).alloc (.loop (rec .ready none))) := by
    rw [hrec]; exact run_enterLoop_outer _ _ _ _ _
  generalize (w.alloc (.deferred (some []))).alloc (.loop (rec .ready none)) = W1 at *
  refine ⟨w.heap.size + 1, _, W1, { target := .fn (.func gf) lb, args := #[.func (.yield (w.heap.size + 1)) #[] #[]] }, W1, gf, #[.func (.yield (w.heap.size + 1)) #[] #[]] ++ lb, W1, hent, ?_, ?_, ?_, fun _ => h1, ?_⟩
  · simp only [resolve, hg]
    simp [go_sem]
  · intro f' hf'
    simp [Target.leads] at hf'
    subst hf'
    exact hFg
  · simp [invoke, go_sem, eg]
  · -- the record is no row of cells
    have norow : ∀ {pre : List α} {A : World} {L : Loop}, I pre A → A.heap[w.heap.size + 1]? = some (.loop L) → ¬ RowOf b8 A (w.heap.size + 1) := by
      intro pre A L hi hl hr
      obtain ⟨cs', fr', h⟩ := (hN pre A hi).2 _ hr
      rw [hl] at h
      cases h
    refine (hseq (w.heap.size + 1)
      (fun pre W => I pre W ∧ W.heap[w.heap.size + 1]? = some (.loop (rec .ready none)) ∧ W.heap[w.heap.size]? = some (.deferred (some [])))
      (fun pre W => Ix pre W ∧ W.heap[w.heap.size + 1]? = some (.loop (rec .done (some (.exit id)))) ∧ W.heap[w.heap.size]? = some (.deferred (some [])))
      W1 hW2 (fun k hk => hkp' k (by omega)) ?_ (fun pre W h => hN pre W h.1) ?_ ⟨hI2, hB, hA2⟩).mono ?_
    · rintro pre A B ⟨hi, hl, hk⟩ ht
      refine ⟨hI pre A B hi ⟨ht.os, ht.tape, ht.output, ht.size, fun k h1 h2 => ht.same k h1 (by rcases h2 with h2 | h2; exact .inl (by omega); exact .inr h2)⟩, ?_, ?_⟩
      · exact (ht.same _ (Array.getElem?_eq_some_iff.1 hl).1 (.inl (by omega))).trans hl
      · exact (ht.same _ (Array.getElem?_eq_some_iff.1 hk).1 (.inl (by omega))).trans hk
    · rintro pre x W ⟨hi, hl, hk⟩
      have hy := run_yield (P := P) (args := encs x) hl (by rw [hparams]; exact hps x)
      have hlt : w.heap.size + 1 < W.heap.size := (Array.getElem?_eq_some_iff.1 hl).1
      rw [hrec] at hy
      refine ⟨fn, _, assign, body, hy, roundIn_of_wpIn hfn (hassign _ x W _ ?_)⟩
      -- the loop's variable is laid; the record is made busy
      have hl1 : (W.alloc (.cells (cs x) t)).heap[w.heap.size + 1]? = some (.loop (rec .ready none)) := (Below.heap_alloc W _ _ hlt).trans hl
      have hk1 : (W.alloc (.cells (cs x) t)).heap[w.heap.size]? = some (.deferred (some [])) := (Below.heap_alloc W _ _ (by omega)).trans hk
      have hi1 : I pre (W.alloc (.cells (cs x) t)) := hI _ _ _ hi (turn_alloc _ _)
      have hs1 : ∀ k, k < W.heap.size → (W.alloc (.cells (cs x) t)).heap[k]? = W.heap[k]? := fun k hk => Below.heap_alloc W _ k hk
      have hx1 : (W.alloc (.cells (cs x) t)).heap[W.heap.size]? = some (.cells (cs x) t (0, 0)) := World.alloc_heap_new W _
      have hb1 : Below n₀ W (W.alloc (.cells (cs x) t)) := (Below.refl _ W).alloc (by omega) _
      have hz1 : (W.alloc (.cells (cs x) t)).heap.size = W.heap.size + 1 := by simp
      generalize W.alloc (.cells (cs x) t) = V at *
      refine ⟨_, run_beginRound hl1 (by rw [hrec]), ?_⟩
      have hl2 : (V.putObj (w.heap.size + 1) (.loop { rec .ready none with state := .busy })).heap[w.heap.size + 1]? = some (.loop { rec .ready none with state := .busy }) := World.putObj_heap_same (by omega)
      have hk2 : (V.putObj (w.heap.size + 1) (.loop { rec .ready none with state := .busy })).heap[w.heap.size]? = some (.deferred (some [])) := (World.putObj_heap_other (by omega)).trans hk1
      have hx2 : (V.putObj (w.heap.size + 1) (.loop { rec .ready none with state := .busy })).heap[W.heap.size]? = some (.cells (cs x) t (0, 0)) := (World.putObj_heap_other (by omega)).trans hx1
      have hi2 : I pre (V.putObj (w.heap.size + 1) (.loop { rec .ready none with state := .busy })) := hI _ _ _ hi1 (turn_putObj V _ (by omega) (norow hi1 hl1))
      have hs2 : ∀ k, k < W.heap.size → k ≠ w.heap.size + 1 → (V.putObj (w.heap.size + 1) (.loop { rec .ready none with state := .busy })).heap[k]? = W.heap[k]? := fun k hk hne => (World.putObj_heap_other hne).trans (hs1 k hk)
      have hb2 : Below n₀ W (V.putObj (w.heap.size + 1) (.loop { rec .ready none with state := .busy })) := hb1.trans (below_putObj V _ (by omega))
      generalize V.putObj (w.heap.size + 1) (.loop { rec .ready none with state := .busy }) = U at *
      have hrnd : Rnd b8 n₀ kp W U := rnd_of_same hb2 (hs2 b8 (by omega) (by omega)) (fun k h1 h2 => hs2 k h2 (hkp k h1))
      refine wpIn_mono (hbody _ pre x W.heap.size U hi2 (by omega) hx2) ?_
      have fin : ∀ (jump : Option Code) (W3 : World), KeepsFrom w.heap.size U W3 →
          (Instr.endRound (w.heap.size + 1) jump).run P W3 = .ok (.bool jump.isNone) (W3.putObj (w.heap.size + 1) (.loop (rec (if jump.isNone then .ready else .done) jump))) ∧
          W3.heap[w.heap.size + 1]? = some (.loop { rec .ready none with state := .busy }) ∧
          (W3.putObj (w.heap.size + 1) (.loop (rec (if jump.isNone then .ready else .done) jump))).heap[w.heap.size + 1]? = some (.loop (rec (if jump.isNone then .ready else .done) jump)) ∧
          (W3.putObj (w.heap.size + 1) (.loop (rec (if jump.isNone then .ready else .done) jump))).heap[w.heap.size]? = some (.deferred (some [])) := by
        intro jump W3 hk3
        have hl3 := hk3.same _ _ (by omega) hl2 rfl
        have hd3 := hk3.same _ _ (Nat.le_refl _) hk2 rfl
        have hr := run_endRound (P := P) jump hl3
        refine ⟨?_, hl3, World.putObj_heap_same (Array.getElem?_eq_some_iff.1 hl3).1, (World.putObj_heap_other (by omega)).trans hd3⟩
        rw [hr, hrec]
      intro e a3 W3 hp
      cases e with
      | normal =>
        obtain ⟨hk3, hb3, hi3⟩ := hp
        obtain ⟨hr, hl3, hl4, hk4⟩ := fin none W3 hk3
        exact ⟨_, _, hr, .inl ⟨rfl, ⟨hI _ _ _ hi3 (turn_putObj W3 _ (by omega) (norow hi3 hl3)), hl4, hk4⟩, (hrnd.trans hb3).trans (rnd_of_same (below_putObj W3 _ (by omega)) (World.putObj_heap_other (by omega)) (fun k h1 h2 => World.putObj_heap_other (hkp k h1)))⟩⟩
      | exit i =>
        obtain ⟨rfl, hk3, hi3⟩ := hp
        obtain ⟨hr, hl3, hl4, hk4⟩ := fin (some (.exit i)) W3 hk3
        exact ⟨_, _, hr, .inr ⟨rfl, hIx _ _ _ _ hi3 (by omega), hl4, hk4⟩⟩
      | ret => exact hp.elim
      | goto t => exact hp.elim
      | panic ch => exact hp.elim
      | outgrown => exact hp.elim
    · rintro e W2 ⟨⟨v, rfl⟩, (⟨xs, hS, hi, hl, hk⟩ | ⟨pre, hSp, hi, hl, hk⟩)⟩
      · have he := run_endLoop (P := P) hl (by rw [hrec]; simp)
        rw [hrec] at he
        exact ⟨none, _, he, hdone _ xs _ (Nat.le_refl _) hS (hI _ _ _ hi (turn_putObj W2 _ (by omega) (norow hi hl))) ((World.putObj_heap_other (by omega)).trans hk)⟩
      · have he := run_endLoop (P := P) hl (by rw [hrec]; simp)
        rw [hrec] at he
        exact ⟨some (.exit id), _, he, hstop _ pre _ (Nat.le_refl _) hSp (hIx _ _ _ _ hi (by omega)) ((World.putObj_heap_other (by omega)).trans hk)⟩
end Go.Proofs.Ytajobinkabdmkaa
