/- Part of the proof of TopOwnItem. Conditions: as stated in each theorem. -/
import Derived.Test.YthkmpegpmpdhaaaGreatDoorZFe
import Derived.Test.YthkmpegpmpdhaaaGreatDoorProg
import Derived.WalkMore
import Derived.Maps.OwnIn
import Derived.Deep.LoopGhost
import Derived.RangeFuncNested
import Derived.RangeFuncCalls
import Derived.RangeFuncLeaves
import Derived.RangeFuncWrites
import Derived.Shelf.Abstract
import Derived.Shelf.RegionOpen
import Derived.OwnWalkIn
import Derived.TacticsInMore
import Derived.LoopNIn
import Derived.LoopIn
import Derived.RangeFuncBound
import Derived.WalkKit
import Derived.WalkSpells
import Derived.WalkLawsBesides
import Derived.Laws.EntriesVeiled
import Derived.ProofKit
import Derived.OpenShut
import Derived.Lib.Hide
import Derived.BigQuiet
import Derived.Deep.QuietTactic
import Derived.Deep.CutRange
import Derived.StillTailTactics
import Derived.Lib.SliceRun
import Derived.RangeFuncRecord
import Derived.Carry
import Derived.ChangeKeysEq
import Derived.Below
import Derived.Laws.OwnMore
import Derived.Deep.AppendLies
import Derived.Deep.Draws
import Derived.Laws.Rows
import Derived.Maps.AppendAt
import Derived.RegionTactic
import Derived.OwnWalk
import Derived.Deep.RegionHeld3
namespace Go.Proofs.YthkmpegpmpdhaaaGreatDoor
section
open Go.Shelf Go.ChangeShapes Go.WideShapes Go.ChangeAt Go.RowKit
set_option linter.unusedSimpArgs false
set_option linter.unusedVariables false
theorem dg_keeps (l : List Int) (A : Option Addr) (n c : Nat) (w : World) (h : RecIn intR w w.heap.size A l) (hn : Hid (n = l.length)) (hnm : n ≤ 9223372036854775807) :
    Calls Tryz.prog 52 #[.slice A n c] w fun e w' => e = .returned (.int .i64 (dgF l)) ∧ Keeps w w' := by
  refine (dg_any l A n c w h hn hnm).mono ?_
  rintro e w' ⟨h1, rfl⟩
  exact ⟨h1, Keeps.refl _⟩
/-- Between the rounds of above's loop. -/
def AbI (row : List Int) (wz : World) (a b : Value) (wx : World) : Prop :=
  ∃ (q : Nat) (A : Option Addr) (m c : Nat) (done : List Int), a = .int .i64 ((2 * q : Nat) : Int) ∧ b = .slice A m c ∧ 2 * q ≤ row.length ∧ OwnR intR wz wx (.slice A m c) done ∧ done.length = q ∧ aboveF row = done ++ aboveF (row.drop (2 * q))
set_option maxHeartbeats 4000000 in
set_option maxRecDepth 100000 in
theorem above136 (row : List Int) (A : Option Addr) (m c : Nat) (w : World) (h : RecIn intR w w.heap.size A row) (hm : Hid (m = row.length)) (hm1 : m ≤ 100000) :
    Calls Tryz.prog 136 #[.slice A m c] w fun e w' => ∃ A' n' c', e = .returned (.slice A' n' c') ∧ OwnR intR w w' (.slice A' n' c') (aboveF row) := by
  have HR := Lib.hid h
  clear h
  go_enter Tryz.func136, Tryz.ntmps136
  go_wp2_with fail
  go_loopw [4, 3] (fun a b wx => AbI row w a b wx) (fun a b _ => m + 1 - (intOf a).toNat)
  case atStart => exact ⟨0, none, 0, 0, [], rfl, rfl, by omega, OwnR.nil w, rfl, rfl⟩
  case round =>
    obtain ⟨q, NA, nn, nc, done, rfl, rfl, hj, hD, hdl, hab⟩ := hrel
    have HDN := Lib.hid hD; have HAB := Lib.hid hab
    have hml := hm.out
    have RR := HR.out
    have hkz := hD.2
    obtain ⟨j, hjq⟩ : ∃ j, 2 * q = j := ⟨_, rfl⟩
    rw [hjq] at hj hab HAB ⊢
    have jw : IntKind.i64.wrap ((j : Int) + 1) = (j : Int) + 1 := wrap_in (by omega) (by omega)
    have jw2 : IntKind.i64.wrap ((j : Int) + 2) = (j : Int) + 2 := wrap_in (by omega) (by omega)
    by_cases hj1 : j + 1 < m
    · obtain ⟨a, ha⟩ : ∃ a, row[j]? = some a := ⟨_, List.getElem?_eq_getElem (by omega)⟩
      obtain ⟨b, hb⟩ : ∃ b, row[j + 1]? = some b := ⟨_, List.getElem?_eq_getElem (by omega)⟩
      obtain ⟨ab, ao, rfl, hab2, c0⟩ := RR.int ha
      obtain ⟨bb, bo, e2, hbb, c1⟩ := RR.int hb
      injection e2 with e2
      injection e2 with e3 e4
      subst e3 e4
      have HAB2 := Lib.hid (show aboveF row = (done ++ [dgF [1, a, b]]) ++ aboveF (row.drop (2 * (q + 1))) by rw [HAB.out, drop_two ha hb, aboveF, List.append_assoc, show 2 * (q + 1) = j + 2 by omega]; rfl)
      have j0 : (0 : Int) ≤ (j : Int) := by omega
      have jm : (j : Int) < (m : Int) := by omega
      have jmn : j < m := by omega
      have j10 : (0 : Int) ≤ (j : Int) + 1 := by omega
      have hq2 : 2 * (q + 1) ≤ row.length := by omega
      have j1m : (j : Int) + 1 < (m : Int) := by omega
      have LE := Lib.hid (show done.length + [dgF [1, a, b]].length ≤ 1000000 by simp; omega)
      have ONE := Lib.hid (show (1 : Nat) = [dgF [1, a, b]].length from rfl)
      have HSM := Lib.hid (dg_keeps [1, a, b] (some ⟨wr.heap.size, 0, none⟩) 3 3 (wr.alloc (.cells #[.int .i64 1, .int .i64 a, .int .i64 b] 3)).drew ((RecIn.lit intOk wr [1, a, b] #[.int .i64 1, .int .i64 a, .int .i64 b] rfl).keep (Keeps.refl _).drew) (Lib.hid rfl) (by omega))
      have e5 : ao + (j + 1) = ao + j + 1 := by omega
      have SOF := Lib.hid (show ∀ X, Keeps w X → (fun w' => w'.cell? ⟨ab, ao + j, none⟩ = some (.int .i64 a) ∧ w'.cell? ⟨ab, ao + (j + 1), none⟩ = some (.int .i64 b) ∧ Keeps w w') X from fun X hX => ⟨cell_keep c0 hX, by rw [e5]; rw [← e5]; exact cell_keep c1 hX, hX⟩)
      clear ha hb hD hab hml RR c0 c1 e5
      go_upto_region 5 with fail
      go_region_held3 (fun w' => w'.cell? ⟨ab, ao + j, none⟩ = some (.int .i64 a) ∧ w'.cell? ⟨ab, ao + (j + 1), none⟩ = some (.int .i64 b) ∧ Keeps w w') ((refine SOF.out _ ?_; (repeat (first | exact hkz | assumption | apply Keeps.drew | apply Keeps.alloc)); done)) ((first | (go_at_call 52; (with_reducible refine HSM.out.mono ?_); rintro e w4 ⟨rfl, hk4'⟩; have hk4 : Keeps wr w4 := (((Keeps.refl wr).alloc _).drew).trans hk4'; have hk4z : Keeps w w4 := hkz.trans hk4; clear hk4') | (refine step_appR intOk (w0 := w) (by rfl) (.tmp 12) (.tmp 24) (by rfl) _ done (by rfl) (HDN.out.keep (hk4.alloc (.cells #[.int .i64 (dgF [1, a, b])] 3))) _ _ _ [dgF [1, a, b]] (by rfl) (RecIn.lit intOk w4 [dgF [1, a, b]] #[.int .i64 (dgF [1, a, b])] rfl) ONE LE ?_; intro A5 n5 c5 w5 ho5 hg5; have O5 := Lib.hid ho5; have hk5 : Keeps w w5 := ho5.2; clear ho5 hg5)))
      rename_i hH
      clear hH
      go_wp2_with fail
      go_roundw
      case rel => exact ⟨q + 1, A5, n5, c5, done ++ [dgF [1, a, b]], (by subst hjq; go_num), rfl, hq2, O5.out, by simp [hdl], HAB2.out⟩
      case measure => simp [intOf]; omega
    · have j1m : decide ((j : Int) + 1 < (m : Int)) = false := by simp; omega
      have j1m2 : ¬ ((j : Int) + 1 < (m : Int)) := by omega
      by_cases hodd : m = j + 1
      · obtain ⟨a, ha⟩ : ∃ a, row[j]? = some a := ⟨_, List.getElem?_eq_getElem (by omega)⟩
        obtain ⟨ab, ao, rfl, hab2, c0⟩ := (RR.keep hkz).int ha
        have HAB2 := Lib.hid (show aboveF row = done ++ [a] by rw [HAB.out, drop_last1 ha (by omega)]; simp [aboveF])
        have par : ((m : Int).tmod 2 == 1) = true := by rw [Int.tmod_eq_emod_of_nonneg (by omega)]; simp; omega
        have par2 : ((m : Int) % 2 == 1) = true := by simp; omega
        have par3 : m % 2 = 1 := by omega
        have mw : IntKind.i64.wrap ((m : Int) - 1) = (j : Int) := by rw [wrap_in (by omega) (by omega)]; omega
        have mw2 : (m : Int) - 1 = (j : Int) := by omega
        have j0 : (0 : Int) ≤ (j : Int) := by omega
        have jm : (j : Int) < (m : Int) := by omega
        have jmn : j < m := by omega
        have LE := Lib.hid (show done.length + [a].length ≤ 1000000 by simp; omega)
        have ONE := Lib.hid (show (1 : Nat) = [a].length from rfl)
        have O3 := Lib.hid (hD.keep ((Keeps.refl wr).alloc (.cells #[.int .i64 a] 3)))
        have X3 := Lib.hid (RecIn.lit intOk wr [a] #[.int .i64 a] rfl)
        clear ha hD hab hml RR hodd
        go_wp2_with (at_builtin; refine wpList_appR intOk (w0 := w) rfl (.tmp 30) (.tmp 37) rfl _ done rfl O3.out _ _ _ [a] rfl X3.out ONE LE ?_; intro A5 n5 c5 w5 ho5 hg5; clear hg5; have O5 := Lib.hid ho5; clear ho5)
        go_ret
        exact ⟨A5, n5, c5, rfl, by rw [HAB2.out]; exact O5.out⟩
      · have e1 : m = j := by omega
        have HAB2 := Lib.hid (show aboveF row = done by rw [HAB.out, List.drop_eq_nil_of_le (by omega)]; simp [aboveF])
        have par : ((m : Int).tmod 2 == 1) = false := by rw [Int.tmod_eq_emod_of_nonneg (by omega)]; simp; omega
        have par2 : ((m : Int) % 2 == 1) = false := by simp; omega
        have par3 : (m % 2 == 1) = false := by simp; omega
        clear hD hab hml RR
        go_wp2_with fail
        go_ret
        exact ⟨NA, nn, nc, rfl, by rw [HAB2.out]; exact HDN.out⟩
end
section
open Go.Shelf Go.ChangeShapes Go.WideShapes Go.ChangeAt Go.RowKit
set_option linter.unusedSimpArgs false
set_option linter.unusedVariables false
section
open Go.RowKit
variable {F : Fence} {n : Nat} {P : Program}
/-- An iterator that hands over what Pr says of the world then, and asks that the blocks of the kind kp stay. -/
def SeqW {α : Type} (F : Fence) (n : Nat) (P : Program) (g : Nat) (lb : Array Value) (encs : α → Array Value) (kp : Nat → Prop) (Pr : α → World → Prop) (T S : List α → Prop) (w : World) : Prop :=
  ∀ (l : Nat) (J : List α → World → Prop) (W : World), Below w.heap.size w W → Abide W.heap.size J →
    (∀ pre x W1, J pre W1 → Pr x W1 → T (pre ++ [x]) → YieldAt F (n - 1) P l (encs x) W1 fun e W' => e = .returned (.bool true) ∧ J (pre ++ [x]) W' ∧ KeepR kp W1 W') →
    J [] W →
    CallsIn F n P g (#[.func (.yield l) #[] #[]] ++ lb) W fun e W' => (∃ v, e = .returned v) ∧ ∃ xs, S xs ∧ J xs W'
/-- How a round is left: it goes on. -/
def seqWPost {α : Type} (kp : Nat → Prop) (I : List α → World → Prop) (xs : List α) (W : World) : Exit → Act → World → Prop
  | .normal, _, W' => KeepR kp W W' ∧ I xs W'
  | _, _, _ => False
theorem range_seqW {α : Type} {g : Operand} {ps : Array Tmp} {assign body : Code} {Q : Exit → Act → World → Prop} {a : Act} {w : World}
    (hro : F.round = none) (h1 : 1 ≤ n) {gf : Nat} {lb : Array Value} (hg : a.eval g = .func (.func gf) #[] lb) (hFg : F.fn gf) (eg : ∀ args w, (callFunc gf args).run P w = .ok (.enter gf args) w)
    {encs : α → Array Value} {kp : Nat → Prop} {Pr : α → World → Prop} {T S : List α → Prop} (hseq : SeqW F (n - 1) P gf lb encs kp Pr T S w) (hk0 : kp w.heap.size) (hk1 : kp (w.heap.size + 1)) (hps : ∀ x, (encs x).size = ps.size)
    (hPr : ∀ x A B, Pr x A → Keeps A B → Pr x B) (hPo : ∀ x (A : World) (o o' : Obj), Pr x A → A.heap[w.heap.size + 1]? = some o → o.isCells = false → Pr x (A.putObj (w.heap.size + 1) o'))
    (I : List α → World → Prop) (hI : Abide w.heap.size I) (h0 : I [] w)
    (a₁ : α → Act)
    (hassign : ∀ (l : Nat) (x : α) (W : World) (K : Act → World → Prop), K (a₁ x) W →
      assign.wpIn (F.inRound l) (n - 1 - 1) P (Exit.then K (fun _ _ _ => False)) { tmps := (ps.zip (encs x)).foldl (fun t (p, v) => t.setIfInBounds p v) a.tmps, defers := [] } W)
    (hbody : ∀ (l : Nat) (pre : List α) (x : α) (W : World), I pre W → Pr x W → T (pre ++ [x]) → w.heap.size ≤ W.heap.size → 
      body.wpIn (F.inRound l) (n - 1 - 1) P (seqWPost kp I (pre ++ [x]) W) (a₁ x) W)
    (hdone : ∀ (D : Nat) (xs : List α) (W : World), w.heap.size ≤ D → S xs → I xs W → W.heap[D]? = some (.deferred (some [])) → Q .normal { a with defers := { target := .collected D, args := #[] } :: a.defers } W) :
    (Code.rangeFunc g ps assign body).wpIn F n P Q a w := by
  refine wpIn_rangeFunc fun fn hfn => ?_
  rw [hro]
  obtain ⟨rec, hrec⟩ : ∃ rec : LoopState → Option Code → Loop, rec = fun st pe => { state := st, pending := pe, fn, tmps := a.tmps, params := ps, assign, body, defers := w.heap.size } := ⟨_, rfl⟩
  have hparams : ∀ st pe, (rec st pe).params = ps := fun st pe => by rw [hrec]
  have hA := World.alloc_heap_new w (.deferred (some []))
  have hB := World.alloc_heap_new (w.alloc (.deferred (some []))) (.loop (rec .ready none))
  rw [World.size_alloc] at hB
  have hA2 : ((w.alloc (.deferred (some []))).alloc (.loop (rec .ready none))).heap[w.heap.size]? = some (.deferred (some [])) := (Below.heap_alloc _ _ _ (by simp)).trans hA
  have hI2 : I [] ((w.alloc (.deferred (some []))).alloc (.loop (rec .ready none))) := hI.alloc _ (hI.alloc _ h0)
  have hW2 : Below w.heap.size w ((w.alloc (.deferred (some []))).alloc (.loop (rec .ready none))) := ((Below.refl _ w).alloc (Nat.le_refl _) _).alloc (by simp) _
  have hsz : ((w.alloc (.deferred (some []))).alloc (.loop (rec .ready none))).heap.size = w.heap.size + 2 := by simp
  have hent : (Instr.enterLoop fn a.tmps ps assign body none).run P w = .ok (w.heap.size + 1, [{ target := .collected w.heap.size, args := #[] }]) ((w.alloc (.deferred (some []))).alloc (.loop (rec .ready none))) := by
    rw [hrec]; exact run_enterLoop_outer _ _ _ _ _
  generalize (w.alloc (.deferred (some []))).alloc (.loop (rec .ready none)) = W1 at *
  refine ⟨w.heap.size + 1, _, W1, { target := .fn (.func gf) lb, args := #[.func (.yield (w.heap.size + 1)) #[] #[]] }, W1, gf, #[.func (.yield (w.heap.size + 1)) #[] #[]] ++ lb, W1, hent, ?_, ?_, ?_, fun _ => h1, ?_⟩
  · simp only [resolve, hg]
    simp [go_sem]
  · intro f' hf'
    simp [Target.leads] at hf'
    subst hf'
    exact hFg
  · simp [invoke, go_sem, eg]
  · refine (hseq (w.heap.size + 1)
      (fun pre W => I pre W ∧ W.heap[w.heap.size + 1]? = some (.loop (rec .ready none)) ∧ W.heap[w.heap.size]? = some (.deferred (some [])))
      W1 hW2 ?_ ?_ ⟨hI2, hB, hA2⟩).mono ?_
    · rintro pre A B row ⟨hi, hl, hk⟩ hg' hr
      have hne : ∀ q : Nat, q < W1.heap.size → some q ≠ row := fun q h1 e => by
        have := (hr q e.symm).1
        omega
      refine ⟨hI pre A B row hi hg' (fun r e => ⟨by have := (hr r e).1; omega, (hr r e).2⟩), ?_, ?_⟩
      · exact (hg'.block _ (Array.getElem?_eq_some_iff.1 hl).1 (hne _ (by omega))).trans hl
      · exact (hg'.block _ (Array.getElem?_eq_some_iff.1 hk).1 (hne _ (by omega))).trans hk
    · rintro pre x W ⟨hi, hl, hk⟩ hPx hT
      have hy := run_yield (P := P) (args := encs x) hl (by rw [hparams]; exact hps x)
      have hlt : w.heap.size + 1 < W.heap.size := (Array.getElem?_eq_some_iff.1 hl).1
      rw [hrec] at hy
      refine ⟨fn, _, assign, body, hy, roundIn_of_wpIn hfn (hassign _ x W _ ?_)⟩
      refine ⟨_, run_beginRound hl (by rw [hrec]), ?_⟩
      have hl2 : (W.putObj (w.heap.size + 1) (.loop { rec .ready none with state := .busy })).heap[w.heap.size + 1]? = some (.loop { rec .ready none with state := .busy }) := World.putObj_heap_same (by omega)
      have hk2 : (W.putObj (w.heap.size + 1) (.loop { rec .ready none with state := .busy })).heap[w.heap.size]? = some (.deferred (some [])) := (World.putObj_heap_other (by omega)).trans hk
      have hi2 : I pre (W.putObj (w.heap.size + 1) (.loop { rec .ready none with state := .busy })) := hI.putObj _ hi (by omega) hl rfl
      have hP2 : Pr x (W.putObj (w.heap.size + 1) (.loop { rec .ready none with state := .busy })) := hPo x W _ _ hPx hl rfl
      have hz2 : (W.putObj (w.heap.size + 1) (.loop { rec .ready none with state := .busy })).heap.size = W.heap.size := by simp
      have ho2 : ∀ k, k ≠ w.heap.size + 1 → (W.putObj (w.heap.size + 1) (.loop { rec .ready none with state := .busy })).heap[k]? = W.heap[k]? := fun k h => World.putObj_heap_other h
      generalize W.putObj (w.heap.size + 1) (.loop { rec .ready none with state := .busy }) = U at *
      refine wpIn_mono (hbody _ pre x U hi2 hP2 hT (by omega)) ?_
      intro e a3 W3 hp
      cases e with
      | normal =>
        obtain ⟨hb3, hi3⟩ := hp
        have hl3 : W3.heap[w.heap.size + 1]? = some (.loop { rec .ready none with state := .busy }) := (hb3.2 _ hk1 (by omega)).trans hl2
        have hd3 : W3.heap[w.heap.size]? = some (.deferred (some [])) := (hb3.2 _ hk0 (by omega)).trans hk2
        have hr := run_endRound (P := P) none hl3
        have hr' : (Instr.endRound (w.heap.size + 1) none).run P W3 = .ok (.bool true) (W3.putObj (w.heap.size + 1) (.loop (rec .ready none))) := by rw [hr, hrec]; rfl
        refine ⟨_, _, hr', rfl, ⟨hI.putObj _ hi3 (by omega) hl3 rfl, World.putObj_heap_same (Array.getElem?_eq_some_iff.1 hl3).1, (World.putObj_heap_other (by omega)).trans hd3⟩, ?_, fun k h1 h2 => ?_⟩
        · simp; have := hb3.1; omega
        · by_cases e : k = w.heap.size + 1
          · subst e
            rw [World.putObj_heap_same (Array.getElem?_eq_some_iff.1 hl3).1]
            exact hl.symm
          · rw [World.putObj_heap_other e, hb3.2 k h1 (by omega)]
            exact ho2 k e
      | exit i => exact hp.elim
      | ret => exact hp.elim
      | goto t => exact hp.elim
      | panic ch => exact hp.elim
      | outgrown => exact hp.elim
    · rintro e W2 ⟨⟨v, rfl⟩, xs, hS, hi, hl, hk⟩
      have he := run_endLoop (P := P) hl (by rw [hrec]; simp)
      rw [hrec] at he
      exact ⟨none, _, he, hdone _ xs _ (Nat.le_refl _) hS (hI.putObj _ hi (by omega) hl rfl) ((World.putObj_heap_other (by omega)).trans hk)⟩
end
theorem NRow.putObj {w : World} {r : Rw} {l : Nat} {o o' : Obj} (h : NRow w r) (ho : w.heap[l]? = some o) (hc : o.isCells = false) : NRow (w.putObj l o') r := by
  intro hn
  obtain ⟨b, cs, e, hb, hx⟩ := h hn
  refine ⟨b, cs, e, ?_, hx⟩
  have hne : b ≠ l := fun e2 => by
    subst e2
    unfold Blk at hb
    rw [hb] at ho
    cases ho
    cases hc
  exact (World.putObj_heap_other hne).trans hb
theorem make_run (W : World) (n : Nat) (hn : n ≤ 1000000) : ∃ W1, (Instr.makeSlice 41 (.int .i64 (n : Int)) (.int .i64 (n : Int))).run Tryz.prog W = .ok (.slice (some ⟨W.heap.size, 0, none⟩) n n) W1 ∧ OwnR intR W W1 (.slice (some ⟨W.heap.size, 0, none⟩) n n) (List.replicate n 0) := by
  obtain ⟨i0, z', hi0, hz0, hz1, hz2, hz3⟩ := intOk.info
  have hby : i0.bytes * n ≤ 1000 * 1000000 := Nat.mul_le_mul (by rw [hz2]; exact intOk.few) hn
  obtain ⟨w', hrun, h1, h2⟩ := run_make_full (P := Tryz.prog) W W.heap.size 41 3 i0 z' 1 Tryz.underlying41 hi0 hz0 hz1 .i64 .i64 n (by omega) (by unfold maxLen; omega) (Nat.le_refl _)
  have hz : (Tryz.prog.info? 3).map (fun i => i.zero) = some (some (.int .i64 0)) := by kernel_rfl
  have e : z' = .int .i64 0 := by rw [hi0] at hz; simp only [Option.map_some, Option.some.injEq] at hz; rw [hz0] at hz; injection hz
  subst e
  exact ⟨w', hrun, OwnR.made intOk (Keeps.refl W) rfl h1 h2⟩
theorem rowsF_head (f : Nat) (row : List Int) : ∃ t, rowsF f row = row :: t := by
  cases f with
  | zero => exact ⟨[], rfl⟩
  | succ f =>
    rw [rowsF]
    split
    · exact ⟨_, rfl⟩
    · exact ⟨[], rfl⟩
/-- A row that is handed over. -/
def GoodR (r : Rw) (w : World) : Prop := NRow w r ∧ r.l ≠ []
/-- Between the rounds of the rows' loop. -/
def RwI (full : List (List Int)) (J : List Rw → World → Prop) (Z : Nat) (v : Value) (wr : World) : Prop :=
  ∃ (pre : List Rw) (f : Nat) (r : Rw), v = .slice r.A r.l.length r.c ∧ J pre wr ∧ NRow wr r ∧ r.l ≠ [] ∧ full = pre.map Rw.l ++ rowsF f r.l ∧ r.l.length ≤ f + 1 ∧ r.l.length ≤ 1000 ∧ (∀ b o t, r.A = some ⟨b, o, t⟩ → Z ≤ b)
set_option maxRecDepth 100000 in
set_option maxHeartbeats 4000000 in
theorem rows_in (n : Nat) (kp : Nat → Prop) (labels : List ByteArray) (A : Option Addr) (m c lb : Nat) (w : World) (h : RecIn strR w w.heap.size A labels) (hn : Hid (m = labels.length)) (h0 : m ≠ 0) (hl : m ≤ 1000) (hs : ∀ s ∈ labels, s.size ≤ 1000000) (hb : Blk w lb 24 #[.slice A m c]) (hkp : ∀ k, w.heap.size ≤ k → kp k) :
    SeqW Fence.wide n Tryz.prog 135 #[.pointer (some ⟨lb, 0, none⟩)] (fun r : Rw => #[.slice r.A r.l.length r.c]) kp GoodR (fun xs => ∃ rest, treeF labels = xs.map Rw.l ++ rest) (fun xs => xs.map Rw.l = treeF labels) w := by
  intro lo J W hW hJ hY hJ0
  have HD := Lib.hid (h.keep hW); have HS := Lib.hid hs; have HKP := Lib.hid (fun k (hk : W.heap.size ≤ k) => hkp k (Nat.le_trans hW.size hk))
  have hb' := hb.below hW hb.lt
  have c0 := cell_of_blk hb' 0 (v := .slice A m c) rfl
  have HTF := Lib.hid (show treeF labels = rowsF labels.length (leafF labels) by unfold treeF; rw [if_neg (fun e => h0 (by rw [hn.out, e]; rfl))])
  have HLL := Lib.hid (show m = (leafF labels).length by unfold leafF; rw [List.length_map]; exact hn.out)
  have z2 : ((m : Int) == 0) = false := by simp; omega
  have z3 : decide ((m : Int) = 0) = false := by simp; omega
  have z1 : (m == 0) = false := by simpa using h0
  clear h hs hb hb' hkp
  refine callsIn_of_wp Tryz.func135 rfl trivial ?_ rfl
  simp only [Tryz.ntmps135, List.size_toArray, List.length_cons, List.length_nil, Nat.reduceAdd, Nat.reduceSub, Array.replicate_succ, Array.replicate_zero, List.push_toArray, List.append_toArray, List.nil_append, List.cons_append]
  obtain ⟨W1, hrun, hO1⟩ := make_run W m (by omega)
  have O1 := Lib.hid hO1
  have J1 := Lib.hid (hJ [] W W1 none hJ0 (grown_of_keeps hO1.2 none) (fun r e => by cases e))
  have c1 := cell_keep c0 hO1.2
  clear hO1
  gi_wp2
  clear hrun
  gi_loopw [14, 4, 5] (fun a x y wr => ∃ i : Nat, i ≤ m ∧ a = .int .i64 (i : Int) ∧ OwnR intR W wr (.slice (some ⟨W.heap.size, 0, none⟩) m m) ((leafF labels).take i ++ List.replicate (m - i) 0)) (fun a x y _ => m - (intOf a).toNat)
  case atStart => exact ⟨0, by omega, rfl, by simpa using O1.out⟩
  case round =>
    clear O1
    obtain ⟨i, hi, rfl, hO⟩ := hrel
    have hnl := hn.out
    by_cases him : i < m
    · obtain ⟨s, hs⟩ : ∃ s, labels[i]? = some s := ⟨_, List.getElem?_eq_getElem (by omega)⟩
      have hlf : (leafF labels)[i]? = some (dgF [0, dgF (codes s)]) := by unfold leafF; rw [List.getElem?_map, hs]; rfl
      have FA := Lib.hid (fill_at (z := (0 : Int)) HLL.out him)
      have FS := Lib.hid (fill_set (z := (0 : Int)) HLL.out hlf)
      obtain ⟨b, o, rfl, hbl, s0⟩ := (HD.out.keep hO.2).str hs
      have HLB := Lib.hid (label102 s wr (HS.out s (List.mem_of_getElem? hs)))
      have HO := Lib.hid hO
      have ii : (i : Int) < (m : Int) := by omega
      have i0 : (0 : Int) ≤ (i : Int) := by omega
      have iw : IntKind.i64.wrap ((i : Int) + 1) = (i : Int) + 1 := wrap_in (by omega) (by omega)
      clear hs hlf hO hnl c0 c1
      gi_wp2_with (first | (refine ⟨trivial, fun h => (by simp [Fence.wide] at h), ?_⟩; gi_at_call 102; (with_reducible refine (callsIn_wide.2 HLB.out).mono ?_); rintro e w2 ⟨rfl, hk2⟩; have K2 := Lib.hid hk2; have HSM := Lib.hid (dg_keeps [0, dgF (codes s)] (some ⟨w2.heap.size, 0, none⟩) 2 2 (w2.alloc (.cells #[.int .i64 0, .int .i64 (dgF (codes s))] 3)) (RecIn.lit intOk w2 [0, dgF (codes s)] #[.int .i64 0, .int .i64 (dgF (codes s))] rfl) (Lib.hid rfl) (by omega)); clear hk2) | (refine ⟨trivial, fun h => (by simp [Fence.wide] at h), ?_⟩; gi_at_call 52; (with_reducible refine (callsIn_wide.2 HSM.out).mono ?_); rintro e w3 ⟨rfl, hk3⟩; have O3 := Lib.hid (HO.out.keep ((K2.out.alloc _).trans hk3)); have q0 := own_cellI O3.out FA.out; have qf := O3.out.frozen i; clear hk3))
      have O4 := own_setI O3.out (dgF [0, dgF (codes s)]) FA.out
      rw [FS.out] at O4
      have O5 := Lib.hid O4
      clear O4 q0 qf
      go_roundw
      case rel => exact ⟨i + 1, by omega, by go_num, O5.out⟩
      case measure => simp [intOf]; omega
    · have e : (leafF labels).take i ++ List.replicate (m - i) 0 = leafF labels := by
        rw [show m - i = 0 by omega, List.take_of_length_le (by have := HLL.out; omega)]
        simp
      rw [e] at hO
      have him' : ¬ ((i : Int) < (m : Int)) := by omega
      have R0 := Lib.hid (show RwI (treeF labels) J W.heap.size (.slice (some ⟨W.heap.size, 0, none⟩) m m) wr from
        ⟨[], labels.length, ⟨leafF labels, some ⟨W.heap.size, 0, none⟩, m⟩, by rw [show m = (leafF labels).length from HLL.out], hJ [] W wr none hJ0 (grown_of_keeps hO.2 none) (fun r e => by cases e), NRow.own hO, fun e2 => h0 (by rw [HLL.out, show leafF labels = [] from e2]; rfl), HTF.out, by show (leafF labels).length ≤ _; have := HLL.out; have := hn.out; omega, by show (leafF labels).length ≤ _; have := HLL.out; omega, fun b o t e2 => by cases e2; exact Nat.le_refl _⟩)
      clear hO hnl e c0 c1
      gi_wp2
      gi_loopw [3] (fun v wr => RwI (treeF labels) J W.heap.size v wr) (fun v _ => slLen v)
      case atStart => exact R0.out
      case round =>
        clear R0
        obtain ⟨pre, f, r, rfl, hJr, hN, hne, hfull, hf, hlen, hZ⟩ := hrel
        obtain ⟨fn, tmps, assign, body, hy, hRd⟩ := hY pre r _ hJr ⟨hN, hne⟩ (by obtain ⟨t, ht⟩ := rowsF_head f r.l; exact ⟨t, by rw [hfull, ht]; simp⟩)
        obtain ⟨rl, rA, rc⟩ := r
        simp only at hne hfull hf hlen hZ hy hRd ⊢
        obtain ⟨k, hk⟩ : ∃ k, rl.length = k := ⟨_, rfl⟩
        have HK := Lib.hid hk
        rw [hk] at hf hlen hy ⊢
        have HN := Lib.hid hN; have HFU := Lib.hid hfull
        by_cases h1 : 1 < k
        · have k1 : (1 : Int) < (k : Int) := by omega
          clear hJr hN hfull hk
          gi_wp2
          refine ⟨fun h => by simp [Fence.wide] at h, hRd.mono ?_⟩
          rintro e W4 ⟨rfl, hJ4, hk4⟩
          have N4 := Lib.hid (show NRow W4 ⟨rl, rA, rc⟩ from fun hn' => by
            obtain ⟨b, cs, e, hb, hx⟩ := HN.out hn'
            exact ⟨b, cs, e, (hk4.2 b (HKP.out b (hZ _ _ _ e)) hb.lt).trans hb, hx⟩)
          have HAB := Lib.hid (above136 rl rA k rc W4 N4.out.recs (Lib.hid HK.out.symm) (by omega))
          have J4 := Lib.hid hJ4
          have SZ4 := Lib.hid (show W.heap.size ≤ W4.heap.size from by
            have h2 := hk4.1
            obtain ⟨b, cs, e, hb, hx⟩ := HN.out hne
            have := hb.lt
            have := hZ _ _ _ e
            omega)
          clear hJ4 hk4
          obtain ⟨f', rfl⟩ : ∃ f', f = f' + 1 := ⟨f - 1, by omega⟩
          have HF2 := Lib.hid (show treeF labels = (pre ++ [(⟨rl, rA, rc⟩ : Rw)]).map Rw.l ++ rowsF f' (aboveF rl) by rw [HFU.out, rowsF, if_pos (by rw [HK.out]; exact h1), List.map_append, List.append_assoc]; rfl)
          have HAL := Lib.hid (show (aboveF rl).length = (k + 1) / 2 by rw [aboveF_len, HK.out])
          gi_wp2_with (refine ⟨trivial, fun h => (by simp [Fence.wide] at h), ?_⟩; gi_at_call 136; (with_reducible refine (callsIn_wide.2 HAB.out).mono ?_); rintro e W5 ⟨A5, n5, c5, rfl, ho5⟩; have O5 := Lib.hid ho5; have N5 := Lib.hid (own_lenR ho5); clear ho5)
          have J5 := hJ _ W4 W5 none J4.out (grown_of_keeps O5.out.2 none) (fun r e => by cases e)
          go_roundw
          case rel =>
            refine ⟨pre ++ [⟨rl, rA, rc⟩], f', ⟨aboveF rl, A5, c5⟩, by rw [← N5.out], J5, NRow.own O5.out, fun e => ?_, HF2.out, by show (aboveF rl).length ≤ _; rw [HAL.out]; omega, by show (aboveF rl).length ≤ _; rw [HAL.out]; omega, fun b o t e => ?_⟩
            · have h2 := HAL.out
              rw [show aboveF rl = [] from e] at h2
              simp at h2
              omega
            · have h2 := (own_lt O5.out.1 (show (Value.slice A5 n5 c5).ownBlock = some b by rw [show A5 = some ⟨b, o, t⟩ from e]; rfl)).1
              exact Nat.le_trans SZ4.out h2
          case measure => simp only [slLen]; rw [N5.out, HAL.out]; omega
        · have k1 : ¬ ((1 : Int) < (k : Int)) := by omega
          have k2 : decide ((1 : Int) < (k : Int)) = false := by simp; omega
          have k3 : decide (1 < k) = false := by simp; omega
          clear hJr hN hfull hk
          gi_wp2
          refine ⟨fun h => by simp [Fence.wide] at h, hRd.mono ?_⟩
          rintro e W4 ⟨rfl, hJ4, hk4⟩
          have J4 := Lib.hid hJ4
          clear hJ4 hk4
          gi_wp2
          go_end0
          exact ⟨⟨_, rfl⟩, pre ++ [⟨rl, rA, rc⟩], by rw [HFU.out, rowsF_one (by rw [HK.out]; omega), List.map_append]; rfl, J4.out⟩
attribute [local go_sem] Oper.semAt_some
theorem below_putO {n₀ l : Nat} (W : World) (o : Obj) (h : n₀ ≤ l) : Below n₀ W (W.putObj l o) :=
  ⟨rfl, rfl, rfl, by simp, fun k hk => World.putObj_heap_other (by omega)⟩
def rootOf (L : List (List Int)) : Int := L.foldl (fun d r => r.headD d) 7
theorem rootOf_snoc (L : List (List Int)) (r : List Int) : rootOf (L ++ [r]) = r.headD (rootOf L) := by unfold rootOf; rw [List.foldl_append]; rfl
def rootF (labels : List ByteArray) : Int := rootOf (treeF labels)
theorem rows80 (A : Option Addr) (m c : Nat) (w : World) : Calls Tryz.prog 80 #[.slice A m c] w fun e w' => e = .returned (.func (.func 135) #[] #[.pointer (some ⟨w.heap.size, 0, none⟩)]) ∧ w' = w.alloc (.cells #[.slice A m c] 24) := by
  go_enter Tryz.func80, Tryz.ntmps80
  go_wp2
  go_ret
  exact ⟨rfl, rfl⟩
/-- Root's loop between two rounds. -/
structure RoI (w : World) (pre : List Rw) (W : World) : Prop where
  low : Keeps w W
  blk : Blk W w.heap.size 3 #[.int .i64 (rootOf (pre.map Rw.l))]
theorem RoI.abide {w w2 : World} (h : w.heap.size < w2.heap.size) : Abide w2.heap.size (RoI w) := by
  rintro pre A B row ⟨hk, hb⟩ hg hr
  have hne : ∀ q : Nat, q < w2.heap.size → some q ≠ row := fun q h1 e => by
    have := (hr q e.symm).1
    omega
  exact ⟨grown_keeps hk hg (fun x e => by have := (hr x e).1; omega), hb.grown hg (hne _ h)⟩
set_option maxRecDepth 100000 in
set_option maxHeartbeats 4000000 in
theorem root41 (labels : List ByteArray) (A : Option Addr) (n c : Nat) (w : World) (h : RecIn strR w w.heap.size A labels) (hn : Hid (n = labels.length)) (h0 : n ≠ 0) (hl : n ≤ 1000) (hs : ∀ s ∈ labels, s.size ≤ 1000000) :
    Calls Tryz.prog 41 #[.slice A n c] w fun e w' => e = .returned (.int .i64 (rootF labels)) ∧ Keeps w w' := by
  have K1 := Lib.hid ((Keeps.refl w).alloc (.cells #[.int .i64 7] 3))
  have B1 := Lib.hid (Blk.new w 3 #[.int .i64 7])
  have d1 : decide ((1000 : Int) < (n : Int)) = false := by simp; omega
  have d2 : decide (1000 < n) = false := by simp; omega
  refine (callsIn_wide (n := 3)).1 ?_
  refine callsIn_of_wp_marks Tryz.func41 rfl trivial ?_ rfl
  refine wpIn_wide.2 ?_
  simp only [Tryz.ntmps41, List.size_toArray, List.length_cons, List.length_nil, Nat.reduceAdd, Nat.reduceSub, Array.replicate_succ, Array.replicate_zero, List.push_toArray, List.append_toArray, List.nil_append, List.cons_append]
  go_wp2_with (go_at_call 80; (with_reducible refine (rows80 _ _ _ _).mono ?_); rintro e w2 ⟨rfl, rfl⟩)
  have K2 := Lib.hid (K1.out.alloc (.cells #[.slice A n c] 24))
  have B2 := Lib.hid (B1.out.alloc (.cells #[.slice A n c] 24))
  have BL := Lib.hid (show Blk ((w.alloc (.cells #[.int .i64 7] 3)).alloc (.cells #[.slice A n c] 24)) (w.heap.size + 1) 24 #[.slice A n c] by have := Blk.new (w.alloc (.cells #[.int .i64 7] 3)) 24 #[.slice A n c]; rwa [World.size_alloc] at this)
  have HSZ := Lib.hid (show ((w.alloc (.cells #[.int .i64 7] 3)).alloc (.cells #[.slice A n c] 24)).heap.size = w.heap.size + 2 by simp)
  generalize hw2 : (w.alloc (.cells #[.int .i64 7] 3)).alloc (.cells #[.slice A n c] 24) = w2 at *
  clear hw2
  refine (wpIn_wide (n := 3)).1 ?_
  refine range_seqW (F := Fence.wide) (n := 3) (gf := 135) (lb := #[.pointer (some ⟨w.heap.size + 1, 0, none⟩)]) rfl (by omega) rfl trivial (enters_of Tryz.func135 (by kernel_rfl) rfl)
    (rows_in 2 (fun k => k ≠ w.heap.size) labels A n c (w.heap.size + 1) w2 (h.keep K2.out) hn h0 hl hs BL.out (fun k hk => by have := HSZ.out; omega)) (by have := HSZ.out; omega) (by have := HSZ.out; omega) (fun _ => rfl)
    (fun x X Y hx hk => ⟨hx.1.keep hk, hx.2⟩) (fun x X o o' hx ho hc => ⟨hx.1.putObj ho hc, hx.2⟩)
    (RoI w) (RoI.abide (by have := HSZ.out; omega)) ⟨K2.out, B2.out⟩
    (fun x => { tmps := #[.slice A n c, undef, .int .i64 0, .pointer (some ⟨w.heap.size, 0, none⟩), .slice x.A x.l.length x.c, .slice A n c, .int .i64 (n : Int), .bool false, .slice A n c, .func (.func 135) #[] #[.pointer (some ⟨w.heap.size + 1, 0, none⟩)], .slice x.A x.l.length x.c, undef, undef, undef, undef], defers := [] })
    ?assign ?body ?done
  case assign =>
    intro lo x W K hK
    gi_wp2
    exact hK
  case body =>
    rintro lo pre ⟨xl, xA, xc⟩ W ⟨low, hb⟩ ⟨hN, hne⟩ - hsz
    obtain ⟨a, ha⟩ : ∃ a, xl[0]? = some a := by
      cases xl with
      | nil => exact absurd rfl hne
      | cons a t => exact ⟨a, rfl⟩
    obtain ⟨xb, xo, e, hxb, c0⟩ := hN.recs.int ha
    simp only at e hne ⊢
    subst e
    obtain ⟨k, hk⟩ : ∃ k, xl.length = k := ⟨_, rfl⟩
    have hk0 : 0 < k := by rw [← hk]; exact List.length_pos_iff.2 hne
    have hk1 : (0 : Int) < (k : Int) := by omega
    rw [Nat.add_zero] at c0
    have q0 := cell_of_blk hb 0 (v := .int .i64 (rootOf (pre.map Rw.l))) rfl
    have qf := hb.frozen 0
    have HB := Lib.hid hb; have LOW := Lib.hid low
    have HA := Lib.hid (show rootOf ((pre ++ [(⟨xl, some ⟨xb, xo, none⟩, xc⟩ : Rw)]).map Rw.l) = a by
      rw [List.map_append]
      show rootOf (pre.map Rw.l ++ [xl]) = a
      rw [rootOf_snoc]
      cases xl with
      | nil => exact absurd rfl hne
      | cons b t => simpa using ha)
    rw [hk]
    clear hk ha hN low hb hne
    gi_wp2
    refine ⟨⟨by simp, fun k h1 h2 => Below.heap_setCell W _ _ k h1⟩, ⟨LOW.out.setCell (Nat.le_refl _) _, ?_⟩⟩
    rw [HA.out]
    simpa using HB.out.set_ 0 (.int .i64 a)
  case done =>
    rintro D xs W hD hS ⟨low, hb⟩ hKD
    have q0 := cell_of_blk hb 0 (v := .int .i64 (rootOf (xs.map Rw.l))) rfl
    have HKD := Lib.hid hKD; have LOW := Lib.hid low
    have HR := Lib.hid (show rootF labels = rootOf (xs.map Rw.l) by rw [hS]; rfl)
    have hD' : w.heap.size ≤ D := by have := HSZ.out; omega
    generalize rootOf (xs.map Rw.l) = R at *
    clear hKD hb low
    go_wp2
    refine ⟨by simp, .inl ⟨_, _, rfl, run_takeDeferred (by exact HKD.out), ?_⟩⟩
    exact ⟨_, results_tmp rfl _ _ _, by rw [HR.out]; rfl, Below.trans LOW.out (below_putO W _ hD')⟩
end
end Go.Proofs.YthkmpegpmpdhaaaGreatDoor
