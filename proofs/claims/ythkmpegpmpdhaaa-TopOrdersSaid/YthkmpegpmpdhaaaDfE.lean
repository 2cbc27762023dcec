import Derived.Test.YthkmpegpmpdhaaaDfD
import Derived.StillTailTactics
import Derived.BigRegion
import Derived.Test.YthkmpegpmpdhaaaRows
import Derived.WalkKit
import Derived.WalkSpells
import Derived.WalkLawsBesides
import Derived.Laws.EntriesVeiled
import Derived.ProofKit
import Derived.OpenShut
import Derived.Lib.Hide
import Derived.BigQuiet
import Derived.Deep.QuietTactic
import Derived.Below
import Derived.Laws.OwnMore
import Derived.Deep.AppendLies
import Derived.Deep.Draws
import Derived.Laws.Rows
import Derived.Maps.AppendAt
import Derived.RegionTactic
import Derived.OwnWalk
import Derived.Deep.RegionHeld3
namespace Go.Proofs.Ythkmpegpmpdhaaa.Df
open Go.ChangeShapes Go.WideShapes Go.ChangeAt Go.RowKit
set_option linter.unusedSimpArgs false
set_option linter.unusedVariables false
theorem row_row_ne {w : World} {b b' t t' n n' : Nat} {f f' : Nat → Value} (h : w.rowIs b t n f) (h' : w.rowIs b' t' n' f') (hne : t ≠ t') : b ≠ b' := by
  rintro rfl
  obtain ⟨c, hb, _, _⟩ := h
  obtain ⟨c', hb', _, _⟩ := h'
  rw [hb] at hb'
  injection hb' with h1
  injection h1 with _ h2
  exact hne h2
def topF (n r : Nat) (gs : Nat → Nat) : Nat → Value := fun j => if j < r then .slice (some ⟨gs j, 0, none⟩) n n else .slice none 0 0
/-- The matrix c in memory, r rows made. -/
structure Mat (W1 wr : World) (n r : Nat) (gs : Nat → Nat) (c : Nat → Nat → Int) : Prop where
  top : wr.rowIs W1.heap.size 131 40 (topF n r gs)
  rows : ∀ j, j < r → wr.rowIs (gs j) 3 n (fun x => .int .i64 (c j x))
  inj : ∀ i j, i < r → j < r → gs i = gs j → i = j
  fresh : ∀ j, j < r → W1.heap.size ≤ gs j
  keeps : Keeps W1 wr
theorem Mat.keep {W1 wr w2 : World} {n r : Nat} {gs : Nat → Nat} {c : Nat → Nat → Int} (h : Mat W1 wr n r gs c) (hk : Keeps wr w2) : Mat W1 w2 n r gs c :=
  ⟨rowIs_keeps h.top hk, fun j hj => rowIs_keeps (h.rows j hj) hk, h.inj, h.fresh, h.keeps.trans hk⟩
theorem Mat.congr {W1 wr : World} {n r : Nat} {gs : Nat → Nat} {c c' : Nat → Nat → Int} (h : Mat W1 wr n r gs c) (e : ∀ a b, a < r → b < n → c a b = c' a b) : Mat W1 wr n r gs c' :=
  ⟨h.top, fun j hj => (h.rows j hj).congr (fun x hx => by rw [e j x hj hx]), h.inj, h.fresh, h.keeps⟩
theorem Mat.start (W1 : World) (n : Nat) {cs : Array Value} (hn : cs.size = 40) (hc : ∀ i, i < 40 → cs[i]? = some (.slice none 0 0)) (gs : Nat → Nat) (c : Nat → Nat → Int) : Mat W1 (W1.alloc (.cells cs 131)) n 0 gs c :=
  ⟨⟨cs, heap_alloc_new W1 _, hn, fun i hi => by rw [hc i hi]; simp [topF]⟩, fun j hj => absurd hj (Nat.not_lt_zero _), fun i j hi => absurd hi (Nat.not_lt_zero _), fun j hj => absurd hj (Nat.not_lt_zero _), (Keeps.refl W1).alloc _⟩
theorem Mat.ne {W1 wr : World} {n r : Nat} {gs : Nat → Nat} {c : Nat → Nat → Int} (h : Mat W1 wr n r gs c) {j : Nat} (hj : j < r) : W1.heap.size ≠ gs j := row_row_ne h.top (h.rows j hj) (by decide)
theorem Mat.row {W1 wr : World} {n r : Nat} {gs : Nat → Nat} {c : Nat → Nat → Int} (h : Mat W1 wr n r gs c) (hr : r < 40) :
    Mat W1 ((wr.alloc (.cells (madeCells #[.int .i64 0] n) 3)).setCell ⟨W1.heap.size, r, none⟩ (.slice (some ⟨wr.heap.size, 0, none⟩) n n)) n (r + 1) (fun j => if j = r then wr.heap.size else gs j) (fun a b => if a = r then 0 else c a b) := by
  have hlt : ∀ j, j < r → gs j < wr.heap.size := fun j hj => (h.rows j hj).lt
  refine ⟨((h.top.alloc _).set r _).congr (fun j _ => ?_), fun j hj => ?_, fun i j hi hj e => ?_, fun j hj => ?_, (h.keeps.alloc _).setCell (Nat.le_refl _) _⟩
  · simp only [topF]
    by_cases e : j = r
    · subst e; simp
    · by_cases hj : j < r
      · simp [e, hj, show j < r + 1 by omega]
      · simp [e, hj, show ¬ j < r + 1 by omega]
  · by_cases e : j = r
    · subst e
      simp only [if_pos]
      exact ((World.rowIs_made wr (.int .i64 0) n 3).setOther (by have := h.top.lt; show wr.heap.size ≠ W1.heap.size; omega) _).congr (fun x _ => by simp)
    · simp only [if_neg e]
      exact ((h.rows j (by omega)).alloc _).setOther (by have := h.ne (show j < r by omega); show gs j ≠ W1.heap.size; omega) _
  · by_cases e1 : i = r <;> by_cases e2 : j = r
    · omega
    · rw [if_pos e1, if_neg e2] at e; have := hlt j (by omega); omega
    · rw [if_neg e1, if_pos e2] at e; have := hlt i (by omega); omega
    · rw [if_neg e1, if_neg e2] at e; exact h.inj i j (by omega) (by omega) e
  · by_cases e : j = r
    · simp only [if_pos e]; have := h.top.lt; omega
    · simp only [if_neg e]; exact h.fresh j (by omega)
theorem Mat.set {W1 wr : World} {n r i j : Nat} {gs : Nat → Nat} {c : Nat → Nat → Int} (h : Mat W1 wr n r gs c) (hi : i < r) (v : Int) :
    Mat W1 (wr.setCell ⟨gs i, j, none⟩ (.int .i64 v)) n r gs (fun a b => if a = i ∧ b = j then v else c a b) := by
  refine ⟨h.top.setOther (h.ne hi) _, fun a ha => ?_, h.inj, h.fresh, h.keeps.setCell (h.fresh i hi) _⟩
  by_cases e : a = i
  · subst e
    refine ((h.rows a ha).set j _).congr (fun x _ => ?_)
    by_cases e2 : x = j
    · simp [e2]
    · simp [e2]
  · refine ((h.rows a ha).setOther (fun e2 => e (h.inj a i ha hi e2)) _).congr (fun x _ => ?_)
    simp [e]
theorem Mat.cellTop {W1 wr : World} {n r i : Nat} {gs : Nat → Nat} {c : Nat → Nat → Int} (h : Mat W1 wr n r gs c) (hi : i < r) (hr : r ≤ 40) : wr.cell? ⟨W1.heap.size, i, none⟩ = some (.slice (some ⟨gs i, 0, none⟩) n n) := by
  have := h.top.cell (i := i) (by omega)
  simpa [topF, hi] using this
theorem Mat.numRows {W1 wr : World} {n : Nat} {gs : Nat → Nat} {c : Nat → Nat → Int} (h : Mat W1 wr n n gs c) (hn : n ≤ 40) : NumRows wr wr.heap.size (some ⟨W1.heap.size, 0, none⟩) (matF n c) := by
  intro k l hl
  have hk : k < n := by have := (List.getElem?_eq_some_iff.1 hl).1; simpa [matF] using this
  rw [matF_row hk] at hl
  injection hl with hl
  subst hl
  refine ⟨_, 0, some ⟨gs k, 0, none⟩, 0, rfl, h.top.lt, ?_, ?_⟩
  · rw [Nat.zero_add, h.cellTop hk hn]; simp
  · refine Nums.of_row (h.rows k hk) (by simp) ?_
    intro j x hx
    have hj : j < n := by have := (List.getElem?_eq_some_iff.1 hx).1; simpa using this
    rw [row_at hj] at hx
    injection hx with hx; exact hx.symm
theorem info30 : ∃ i, Try.prog.info? 28 = some i ∧ i.zero = some (.slice none 0 0) ∧ i.size = 1 ∧ i.bytes = 24 := by
  have h := info30'
  cases hi : Try.prog.info? 28 with
  | none => rw [hi] at h; cases h
  | some i =>
    rw [hi] at h
    simp only [Option.map_some, Option.some.injEq, Prod.mk.injEq] at h
    exact ⟨i, rfl, h.1, h.2.1, h.2.2⟩

def rowVals (n : Nat) (gs : Nat → Nat) : List Value := (List.range n).map fun j => Value.slice (some ⟨gs j, 0, none⟩) n n
theorem rowVals_one (n : Nat) (gs : Nat → Nat) : ∀ u ∈ rowVals n gs, u.oneCell' = true := by
  intro u hu
  simp only [rowVals, List.mem_map] at hu
  obtain ⟨j, _, rfl⟩ := hu
  rfl
theorem row_reads {W1 wr : World} {n : Nat} {gs : Nat → Nat} {c : Nat → Nat → Int} (h : Mat W1 wr n n gs c) (hn : n ≤ 40) : Reads wr wr.heap.size 1 (some ⟨W1.heap.size, 0, none⟩) n (rowVals n gs) := by
  refine ⟨by simp [rowVals], fun _ => ⟨_, rfl, h.top.lt, fun j u hu => ?_⟩⟩
  have hj : j < n := by have := (List.getElem?_eq_some_iff.1 hu).1; simpa [rowVals] using this
  have hu' : u = .slice (some ⟨gs j, 0, none⟩) n n := by simpa [rowVals, hj] using hu.symm
  have fix : (⟨W1.heap.size, 0, none⟩ : Addr).add j = ⟨W1.heap.size, j, none⟩ := by unfold Addr.add; split <;> simp_all
  rw [fix, hu']; exact h.cellTop hj hn
theorem rows_of_own {W1 w' : World} {n c : Nat} {A : Option Addr} {gs : Nat → Nat} {d : Nat → Nat → Int} (ho : w'.ownsRow 0 28 1 (.slice A n c) n (rowVals n gs)) (h : Mat W1 w' n n gs d) : NumRows w' w'.heap.size A (matF n d) := by
  intro k l hl
  have hk : k < n := by have := (List.getElem?_eq_some_iff.1 hl).1; simpa [matF] using this
  rw [matF_row hk] at hl
  injection hl with hl
  subst hl
  obtain ⟨ad, he, hb, hc⟩ := (Reads.of_own ho).2 (by omega)
  rcases ho.2 with ⟨h0, h1⟩ | ⟨g, cap, cur, hv, _, hgg, _⟩
  · omega
  injection hv with hA
  rw [hA] at he
  injection he with he
  subst he
  have hcj := hc k (.slice (some ⟨gs k, 0, none⟩) n n) (by simp [rowVals, hk])
  have fix : (⟨g, 0, none⟩ : Addr).add k = ⟨g, 0 + k, none⟩ := by unfold Addr.add; split <;> simp_all
  rw [fix] at hcj
  refine ⟨g, 0, some ⟨gs k, 0, none⟩, 0, hA, hb, by rw [hcj]; simp, ?_⟩
  refine Nums.of_row (h.rows k hk) (by simp) ?_
  intro j x hx
  have hj : j < n := by have := (List.getElem?_eq_some_iff.1 hx).1; simpa using this
  rw [row_at hj] at hx
  injection hx with hx; exact hx.symm
/-- A matrix under way: D' up to place (a, b), D from there. -/
def mixF (D D' : Nat → Nat → Int) (a b x y : Nat) : Int := if x < a ∨ (x = a ∧ y < b) then D' x y else D x y
theorem mix_col {D : Nat → Nat → Int} {q a b : Nat} (h : 0 ≤ D q q) (x : Nat) : mixF D (stepF D q) a b x q = D x q := by unfold mixF; split <;> simp [step_col h]
theorem mix_row {D : Nat → Nat → Int} {q a b : Nat} (h : 0 ≤ D q q) (y : Nat) : mixF D (stepF D q) a b q y = D q y := by unfold mixF; split <;> simp [step_row h]
theorem mix_here {D D' : Nat → Nat → Int} {a b : Nat} : mixF D D' a b a b = D a b := by unfold mixF; rw [if_neg (by omega)]
theorem mix_zero {D D' : Nat → Nat → Int} {x y : Nat} : mixF D D' 0 0 x y = D x y := by unfold mixF; rw [if_neg (by omega)]
theorem mix_line {D D' : Nat → Nat → Int} {a n x y : Nat} (hy : y < n) : mixF D D' a n x y = mixF D D' (a + 1) 0 x y := by
  unfold mixF
  by_cases h : x < a ∨ (x = a ∧ y < n)
  · rw [if_pos h, if_pos (by omega)]
  · rw [if_neg h, if_neg (by omega)]
theorem mix_all {D D' : Nat → Nat → Int} {n x y : Nat} (hx : x < n) : mixF D D' n 0 x y = D' x y := by unfold mixF; rw [if_pos (.inl hx)]
theorem mix_same {D D' : Nat → Nat → Int} {a b x y : Nat} (h : D' a b = D a b) : mixF D D' a b x y = mixF D D' a (b + 1) x y := by
  unfold mixF
  by_cases e : x = a ∧ y = b
  · obtain ⟨rfl, rfl⟩ := e
    rw [if_neg (by omega), if_pos (by omega), h]
  · by_cases h : x < a ∨ (x = a ∧ y < b)
    · rw [if_pos h, if_pos (by omega)]
    · rw [if_neg h, if_neg (by omega)]
theorem mix_set {D D' : Nat → Nat → Int} {a b x y : Nat} {v : Int} (h : D' a b = v) : (if x = a ∧ y = b then v else mixF D D' a b x y) = mixF D D' a (b + 1) x y := by
  by_cases e : x = a ∧ y = b
  · obtain ⟨rfl, rfl⟩ := e
    rw [if_pos ⟨rfl, rfl⟩]; unfold mixF; rw [if_pos (by omega), h]
  · rw [if_neg e]; unfold mixF
    by_cases h : x < a ∨ (x = a ∧ y < b)
    · rw [if_pos h, if_pos (by omega)]
    · rw [if_neg h, if_neg (by omega)]
theorem step_none {D : Nat → Nat → Int} {q a b : Nat} (h : D a q = NoB ∨ D q b = NoB) : stepF D q a b = D a b := by
  unfold stepF; rw [if_neg (by rintro ⟨h1, h2⟩; rcases h with h | h <;> contradiction)]
theorem step_some {D : Nat → Nat → Int} {q a b : Nat} (h1 : D a q ≠ NoB) (h2 : D q b ≠ NoB) : stepF D q a b = min (D a b) (D a q + D q b) := by
  unfold stepF; rw [if_pos ⟨h1, h2⟩]

def LeastPost (n : Nat) (d : Nat → Nat → Int) (w : World) (e : Ending) (w' : World) : Prop :=
  if leastB n d = true then ∃ A c, e = .returned (.tuple #[.slice A n c, .bool true]) ∧ NumRows w' w'.heap.size A (matF n (itF d n)) ∧ Keeps w w'
  else ∃ A m c, e = .returned (.tuple #[.slice A m c, .bool false]) ∧ Keeps w w'
theorem least_no {n k : Nat} {d : Nat → Nat → Int} {w w' : World} {A : Option Addr} {m c : Nat} (hk : k ≤ n) (h : contrB n (itF d k) = true) (hK : Keeps w w') : LeastPost n d w (.returned (.tuple #[.slice A m c, .bool false])) w' := by
  have : leastB n d = false := by simp only [leastB, List.all_eq_false, List.mem_range]; exact ⟨k, by omega, by simp [h]⟩
  unfold LeastPost
  rw [if_neg (by simp [this])]
  exact ⟨A, m, c, rfl, hK⟩
theorem least_yes {n : Nat} {d : Nat → Nat → Int} {w w' : World} {A : Option Addr} {c : Nat} (h : ∀ k, k ≤ n → contrB n (itF d k) = false) (hN : NumRows w' w'.heap.size A (matF n (itF d n))) (hK : Keeps w w') : LeastPost n d w (.returned (.tuple #[.slice A n c, .bool true])) w' := by
  have : leastB n d = true := by simp only [leastB, List.all_eq_true, List.mem_range]; intro k hk; simp [h k (by omega)]
  unfold LeastPost
  rw [if_pos this]
  exact ⟨A, c, rfl, hN, hK⟩
set_option maxHeartbeats 8000000 in
set_option maxRecDepth 100000 in
theorem least_any (n r : Nat) (G : Ky → Option Int) (w : World) (hm : MapTo w r G) (hn : n ≤ 12) (d : Nat → Nat → Int) (hd : elF (gN G) = d) (hB : Bnd 0 d) : Calls Try.prog 45 #[.int .i64 (n : Int), .map (some r)] w (LeastPost n d w) := by
  have HD := Lib.hid hd; clear hd
  have HB := Lib.hid (fun k (hk : k ≤ 13) => hB.it k hk); clear hB
  have k0 : Keeps w (w.alloc (.cells #[.map (some r)] 107)) := (Keeps.refl w).alloc _
  have HM := Lib.hid (hm.keep k0)
  have HX := Lib.hid (Blk.new w 107 #[.map (some r)])
  have K0 := Lib.hid k0
  clear hm k0
  go_enter Try.func45, Try.ntmps45
  go_wp2_with fail
  have hz : (w.alloc (.cells #[Value.map (some r)] 107)).heap.size = w.heap.size + 1 := by simp
  have HS := Lib.hid (Mat.start (w.alloc (.cells #[.map (some r)] 107)) n (cs := Array.replicate 40 (.slice none 0 0)) (by simp) (fun i hi => by simp [hi]) (fun _ => 0) d)
  simp only [Array.replicate_succ, Array.replicate_zero, List.push_toArray, List.nil_append, List.cons_append] at HS
  rw [← hz]
  have HZ := Lib.hid hz; clear hz
  generalize w.alloc (.cells #[.map (some r)] 107) = W1 at *
  generalize W1.alloc (.cells _ 131) = W0 at *
  go_loopw [8, 15] (fun _ i wr => ∃ (k : Nat) (gs : Nat → Nat), k ≤ n ∧ i = .int .i64 (k : Int) ∧ Mat W1 wr n k gs d) (fun _ i _ => n - (intOf i).toNat)
  case atStart => exact ⟨0, _, by omega, rfl, HS.out⟩
  case round =>
    clear HS
    obtain ⟨k, gs, hk, rfl, hM⟩ := hrel
    have HMt := Lib.hid hM; clear hM
    obtain ⟨wo, rfl⟩ : ∃ wo : World, wo = wr := ⟨_, rfl⟩
    by_cases hkn : k < n
    · have hki : (k : Int) < (n : Int) := by omega
      have hk0 : (0 : Int) ≤ (k : Int) := by omega
      have hkw : IntKind.i64.wrap ((k : Int) + 1) = (k : Int) + 1 := IntWalk.i64_in _ (by omega)
      have hk40 : (k : Int) < 40 := by omega
      have hmk := run_make_row' (P := Try.prog) 28 3 (.int .i64 0) 8 Try.underlying28 info3' rfl .i64 .i64 n (by omega) (by omega)
      have hst1 : ∀ o, (wo.alloc o).cell? ⟨W1.heap.size, k, none⟩ = some (topF n k gs k) := fun o => (HMt.out.top.alloc o).cell (by omega)
      have hst2 : ∀ o, (wo.alloc o).frozen? ⟨W1.heap.size, k, none⟩ = false := fun o => (HMt.out.top.alloc o).frozen k
      have HR0 := Lib.hid (HMt.out.row (r := k) (by omega))
      go_wp2_with fail
      clear hmk hst1 hst2
      generalize hgs : (fun j => if j = k then wo.heap.size else gs j) = gs1 at *
      have HG1 := Lib.hid hgs; clear hgs
      go_loopw [9, 23] (fun _ i wi => ∃ (j : Nat) (c : Nat → Nat → Int), j ≤ n ∧ i = .int .i64 (j : Int) ∧ Mat W1 wi n (k + 1) gs1 c ∧ (∀ a b, a < k → b < n → c a b = d a b) ∧ ∀ b, b < j → c k b = d k b) (fun _ i _ => n - (intOf i).toNat)
      case atStart => exact ⟨0, (fun a b => if a = k then 0 else d a b), by omega, rfl, HR0.out, fun a b ha hb => by simp [show ¬ a = k by omega], fun b hb => by omega⟩
      case round =>
        clear HR0
        obtain ⟨j, c, hj, rfl, hM, hc1, hc2⟩ := hrel
        have HMi := Lib.hid hM; have HC1 := Lib.hid hc1; have HC2 := Lib.hid hc2
        clear hM hc1 hc2
        by_cases hjn : j < n
        · have hji : (j : Int) < (n : Int) := by omega
          have hj0 : (0 : Int) ≤ (j : Int) := by omega
          have hjw : IntKind.i64.wrap ((j : Int) + 1) = (j : Int) + 1 := IntWalk.i64_in _ (by omega)
          have ct := HMi.out.cellTop (i := k) (by omega) (by omega)
          have KW := Lib.hid HMi.out.keeps
          have EL := Lib.hid (element_any G r w.heap.size k j wr (HM.out.keep KW.out) (HX.out.below KW.out HX.out.lt) (d k j) (by rw [HD.out]))
          have ELd := Lib.hid (element_any G r w.heap.size k j wr.drew (HM.out.keep KW.out.drew) (HX.out.below KW.out.drew HX.out.lt) (d k j) (by rw [HD.out]))
          have SOF := Lib.hid (show ∀ X, Keeps wr X → (fun w' => w'.cell? ⟨W1.heap.size, k, none⟩ = some (.slice (some ⟨gs1 k, 0, none⟩) n n)) X from fun X hX => cell_keep ct hX)
          go_wp2_with fail
          refine wp_region_held_drew (S := (fun w' => w'.cell? ⟨W1.heap.size, k, none⟩ = some (.slice (some ⟨gs1 k, 0, none⟩) n n))) (by kernel_rfl) ?_ (fun hHeld => ?_)
          · (first | exact hst | (refine SOF.out _ ?_; (repeat (first | exact Keeps.refl _ | exact hkk | apply Keeps.drew | apply Keeps.alloc)); done))
          refine wpAnyH_take (i := 0) (v := ?_) rfl (by kernel_rfl) (by kernel_rfl) (by kernel_rfl) (fun _ _ _ h => h) (Or.inl ⟨by rfl, ?_⟩) hHeld ?_
          rotate_left 1
          · ((intro w hSw; (try dsimp only at hSw); go_simp); try with_reducible rfl)
          try simp only [List.getElem_toArray, List.getElem_cons_succ, List.getElem_cons_zero, Act.put, List.setIfInBounds_toArray, List.set_cons_zero, List.set_cons_succ]
          refine wpAnyH_take (i := 1) (v := ?_) rfl (by kernel_rfl) (by kernel_rfl) (by kernel_rfl) (fun _ _ _ h => h) (Or.inl ⟨by rfl, ?_⟩) hHeld ?_
          rotate_left 1
          · ((intro w hSw; (try dsimp only at hSw); go_simp); try with_reducible rfl)
          try simp only [List.getElem_toArray, List.getElem_cons_succ, List.getElem_cons_zero, Act.put, List.setIfInBounds_toArray, List.set_cons_zero, List.set_cons_succ]
          refine wpAnyH_take (i := 2) (v := ?_) rfl (by kernel_rfl) (by kernel_rfl) (by kernel_rfl) (fun _ _ _ h => h) (Or.inl ⟨by rfl, ?_⟩) hHeld ?_
          rotate_left 1
          · ((intro w hSw; (try dsimp only at hSw); go_simp); try with_reducible rfl)
          try simp only [List.getElem_toArray, List.getElem_cons_succ, List.getElem_cons_zero, Act.put, List.setIfInBounds_toArray, List.set_cons_zero, List.set_cons_succ]
          refine wpAnyH_take (i := 3) (v := ?_) rfl (by kernel_rfl) (by kernel_rfl) (by kernel_rfl) (fun _ _ _ h => h) (Or.inl ⟨by rfl, ?_⟩) hHeld ?_
          rotate_left 1
          · ((intro w hSw; (try dsimp only at hSw); go_simp); try with_reducible rfl)
          try simp only [List.getElem_toArray, List.getElem_cons_succ, List.getElem_cons_zero, Act.put, List.setIfInBounds_toArray, List.set_cons_zero, List.set_cons_succ]
          refine wpAnyH_take (i := 4) (v := ?_) rfl (by kernel_rfl) (by kernel_rfl) (by kernel_rfl) (fun _ _ _ h => h) (Or.inl ⟨by rfl, ?_⟩) hHeld ?_
          rotate_left 1
          · ((intro w hSw; (try dsimp only at hSw); go_simp); try with_reducible rfl)
          try simp only [List.getElem_toArray, List.getElem_cons_succ, List.getElem_cons_zero, Act.put, List.setIfInBounds_toArray, List.set_cons_zero, List.set_cons_succ]
          refine wpAnyH_take (i := 5) (v := ?_) rfl (by kernel_rfl) (by kernel_rfl) (by kernel_rfl) (fun _ _ _ h => h) (Or.inl ⟨by rfl, ?_⟩) hHeld ?_
          rotate_left 1
          · ((intro w hSw; (try dsimp only at hSw); go_simp); try with_reducible rfl)
          try simp only [List.getElem_toArray, List.getElem_cons_succ, List.getElem_cons_zero, Act.put, List.setIfInBounds_toArray, List.set_cons_zero, List.set_cons_succ]
          refine wpAnyH_take (i := 6) (v := ?_) rfl (by kernel_rfl) (by kernel_rfl) (by kernel_rfl) (fun _ _ _ h => h) (Or.inl ⟨by rfl, ?_⟩) hHeld ?_
          rotate_left 1
          · ((intro w hSw; (try dsimp only at hSw); go_simp); try with_reducible rfl)
          try simp only [List.getElem_toArray, List.getElem_cons_succ, List.getElem_cons_zero, Act.put, List.setIfInBounds_toArray, List.set_cons_zero, List.set_cons_succ]
          refine wpAnyH_ready (rs := [7]) (by kernel_rfl) (by simp) ?_
          refine AllReadyH.cons (o := _) rfl (fun K hK => ?_) AllReadyH.nil
          go_simp
          (first | refine EL.out.mono ?_ | refine ELd.out.mono ?_); rintro e w2 ⟨rfl, hk2⟩; have hkk : Keeps wr w2 := (by first | exact hk2 | exact ((Keeps.refl wr).drew).trans hk2); have HM2 := Lib.hid (HMi.out.keep hkk); have s1 : w2.cell? ⟨gs1 k, j, none⟩ = some (.int .i64 (c k j)) := (HM2.out.rows k (by omega)).cell hjn; have s2 : w2.frozen? ⟨gs1 k, j, none⟩ = false := (HM2.out.rows k (by omega)).frozen j; have HST := Lib.hid (HM2.out.set (i := k) (j := j) (by omega) (d k j)); have hst : (w2.setCell ⟨gs1 k, j, none⟩ (.int .i64 (d k j))).cell? ⟨W1.heap.size, k, none⟩ = some (.slice (some ⟨gs1 k, 0, none⟩) n n) := HST.out.cellTop (by omega) (by omega); go_simp
          refine hK.out _ _ ?_ (fun hHeld => ?_)
          · (first | exact hst | (refine SOF.out _ ?_; (repeat (first | exact Keeps.refl _ | exact hkk | apply Keeps.drew | apply Keeps.alloc)); done))
          clear hK K
          try simp only [List.getElem_toArray, List.getElem_cons_succ, List.getElem_cons_zero, Act.put, List.setIfInBounds_toArray, List.set_cons_zero, List.set_cons_succ]
          refine wpAnyH_take (i := 8) (v := ?_) rfl (by kernel_rfl) (by kernel_rfl) (by kernel_rfl) (fun _ _ _ h => h) (Or.inl ⟨by rfl, ?_⟩) hHeld ?_
          rotate_left 1
          · ((intro w hSw; (try dsimp only at hSw); go_simp); try with_reducible rfl)
          try simp only [List.getElem_toArray, List.getElem_cons_succ, List.getElem_cons_zero, Act.put, List.setIfInBounds_toArray, List.set_cons_zero, List.set_cons_succ]
          refine wpAnyH_ready (rs := [9]) (by kernel_rfl) (by simp) ?_
          refine AllReadyH.cons (o := _) rfl (fun K hK => ?_) AllReadyH.nil
          go_simp
          refine hK.out _ _ ?_ (fun hHeld => ?_)
          · (first | exact hst | (refine SOF.out _ ?_; (repeat (first | exact Keeps.refl _ | exact hkk | apply Keeps.drew | apply Keeps.alloc)); done))
          clear hK K
          try simp only [List.getElem_toArray, List.getElem_cons_succ, List.getElem_cons_zero, Act.put, List.setIfInBounds_toArray, List.set_cons_zero, List.set_cons_succ]
          refine wpAnyH_done (by kernel_rfl) ?_ _
          go_wp2_with fail
          go_roundw
          case rel => exact ⟨j + 1, _, by omega, by go_num, HST.out, fun a b ha hb => by rw [if_neg (by omega)]; exact HC1.out a b ha hb, fun b hb => by
            by_cases e : b = j
            · simp [e]
            · rw [if_neg (by omega)]; exact HC2.out b (by omega)⟩
          case measure => simp [intOf]; omega
        · have HN := Lib.hid (HMi.out.congr (c' := d) (fun a b ha hb => by
            by_cases e : a = k
            · subst e; exact HC2.out b (by omega)
            · exact HC1.out a b (by omega) hb))
          go_wp2_with fail
          go_roundw
          case rel => exact ⟨k + 1, gs1, by omega, by go_num, HN.out⟩
          case measure => simp [intOf]; omega
    · obtain rfl : k = n := by omega
      have KW := Lib.hid (K0.out.trans HMt.out.keeps)
      go_wp2_with fail
      go_loopw [10, 38] (fun _ i wi => ∃ (q : Nat), q ≤ k ∧ i = .int .i64 (q : Int) ∧ Mat W1 wi k k gs (itF d q) ∧ ∀ p, p < q → contrB k (itF d p) = false) (fun _ i _ => k - (intOf i).toNat)
      case atStart => exact ⟨0, by omega, rfl, HMt.out, fun p hp => by omega⟩
      case round =>
        clear HMt KW
        obtain ⟨q, hq, rfl, hM, hc⟩ := hrel
        have HMq := Lib.hid hM; have HC := Lib.hid hc
        clear hM hc
        have hk40 : (k : Int) ≤ 40 := by omega
        have hk00 : (0 : Int) ≤ (k : Int) := by omega
        have KW := Lib.hid (K0.out.trans HMq.out.keeps)
        by_cases hqk : q < k
        · have hqi : (q : Int) < (k : Int) := by omega
          have hq0 : (0 : Int) ≤ (q : Int) := by omega
          have hq40 : (q : Int) < 40 := by omega
          have hqw : IntKind.i64.wrap ((q : Int) + 1) = (q : Int) + 1 := IntWalk.i64_in _ (by omega)
          cases hcon : contrB k (itF d q)
          · have CN := Lib.hid (contr_any k (itF d q) _ 40 wr (HMq.out.numRows (by omega)) (by omega) false (Lib.hid hcon))
            have hqq := contr_false hcon q hqk
            have hbq := HB.out q (by omega)
            have hp2 := two_pow_le (k := q) (by omega)
            have HCN := Lib.hid hcon
            obtain ⟨D, hD⟩ : ∃ D, itF d q = D := ⟨_, rfl⟩
            have hD' : itF d (q + 1) = stepF D q := by rw [← hD]; rfl
            have HDD := Lib.hid hD'; have HD1 := Lib.hid hD
            rw [hD] at HMq hqq hbq
            clear hcon hD hD'
            go_wp2_with (go_at_call 62; (with_reducible refine CN.out.mono ?_); rintro e w2 ⟨rfl, hk2⟩)
            have HM2 := Lib.hid (HMq.out.keep hk2)
            clear HMq CN hk2 KW
            go_loopw [11, 45] (fun _ i wi => ∃ (a : Nat), a ≤ k ∧ i = .int .i64 (a : Int) ∧ Mat W1 wi k k gs (mixF D (stepF D q) a 0)) (fun _ i _ => k - (intOf i).toNat)
            case atStart => exact ⟨0, by omega, rfl, HM2.out.congr (fun x y _ _ => mix_zero.symm)⟩
            case round =>
              clear HM2
              obtain ⟨a, ha, rfl, hM⟩ := hrel
              have HMa := Lib.hid hM; clear hM
              by_cases hak : a < k
              · have hai : (a : Int) < (k : Int) := by omega
                have ha0 : (0 : Int) ≤ (a : Int) := by omega
                have ha40 : (a : Int) < 40 := by omega
                have haw : IntKind.i64.wrap ((a : Int) + 1) = (a : Int) + 1 := IntWalk.i64_in _ (by omega)
                go_wp2_with fail
                go_loopw [12, 49] (fun _ i wi => ∃ (b : Nat), b ≤ k ∧ i = .int .i64 (b : Int) ∧ Mat W1 wi k k gs (mixF D (stepF D q) a b)) (fun _ i _ => k - (intOf i).toNat)
                case atStart => exact ⟨0, by omega, rfl, HMa.out⟩
                case round =>
                  clear HMa
                  obtain ⟨b, hb, rfl, hM⟩ := hrel
                  have HMb := Lib.hid hM; clear hM
                  by_cases hbk : b < k
                  · have hbi : (b : Int) < (k : Int) := by omega
                    have hb0 : (0 : Int) ≤ (b : Int) := by omega
                    have hbw : IntKind.i64.wrap ((b : Int) + 1) = (b : Int) + 1 := IntWalk.i64_in _ (by omega)
                    have ta := HMb.out.cellTop hak (by omega)
                    have tq := HMb.out.cellTop hqk (by omega)
                    have caq := (HMb.out.rows a hak).cell hqk
                    have cqb := (HMb.out.rows q hqk).cell hbk
                    have cab := (HMb.out.rows a hak).cell hbk
                    have fab := (HMb.out.rows a hak).frozen b
                    rw [mix_col hqq] at caq
                    rw [mix_row hqq] at cqb
                    rw [mix_here] at cab
                    have b1 := hbq a q
                    have b2 := hbq q b
                    have s0 : D a q = NoB ∨ D q b = NoB → stepF D q a b = D a b := step_none
                    have s1 : D a q ≠ NoB → D q b ≠ NoB → stepF D q a b = min (D a b) (D a q + D q b) := step_some
                    have SET := Lib.hid (fun v (hv : stepF D q a b = v) => (HMb.out.set (i := a) (j := b) hak v).congr (fun x y _ _ => mix_set hv))
                    have SETd := Lib.hid (fun v (hv : stepF D q a b = v) => ((HMb.out.keep ((Keeps.refl wr).drew)).set (i := a) (j := b) hak v).congr (fun x y _ _ => mix_set hv))
                    have SAME := Lib.hid (fun (h : stepF D q a b = D a b) => HMb.out.congr (fun x y _ _ => mix_same (x := x) (y := y) h))
                    clear HMb
                    generalize stepF D q a b = v at *
                    generalize D a q = x at *
                    generalize D q b = y at *
                    generalize D a b = z at *
                    have S0 := Lib.hid s0; have S1 := Lib.hid s1
                    clear s0 s1
                    by_cases hx : x = NoB
                    · have hx' : (x != 1099511627776) = false := by unfold NoB at hx; simp [hx]
                      have HT := Lib.hid (SAME.out (S0.out (.inl hx)))
                      clear hx
                      go_wp2_with fail
                      go_roundw
                      case rel => exact ⟨b + 1, by omega, by go_num, HT.out⟩
                      case measure => simp [intOf]; omega
                    · have hx' : (x != 1099511627776) = true := by unfold NoB at hx; simpa using hx
                      by_cases hy : y = NoB
                      · have hy' : (y != 1099511627776) = false := by unfold NoB at hy; simp [hy]
                        have HT := Lib.hid (SAME.out (S0.out (.inr hy)))
                        clear hx hy
                        go_wp2_with fail
                        go_roundw
                        case rel => exact ⟨b + 1, by omega, by go_num, HT.out⟩
                        case measure => simp [intOf]; omega
                      · have hy' : (y != 1099511627776) = true := by unfold NoB at hy; simpa using hy
                        have hv := S1.out hx hy
                        have b1' := b1.resolve_left hx
                        have b2' := b2.resolve_left hy
                        have hsw : IntKind.i64.wrap (x + y) = x + y := IntWalk.i64_in _ (by omega)
                        clear b1 b2 hx hy b1' b2'
                        by_cases hle : z ≤ x + y
                        · have HT := Lib.hid (SET.out z (by rw [hv]; omega))
                          have HTd := Lib.hid (SETd.out z (by rw [hv]; omega))
                          clear hv
                          go_wp2_with fail
                          refine wp_region_still_tail 25 (by kernel_rfl) (by kernel_rfl) ?_
                          simp only [List.take_succ_cons, List.take_zero, List.drop_succ_cons, List.drop_zero]
                          repeat still_step
                          refine wpStill_nil ?_
                          change wpList _ _ _ _ _ wr.drew
                          go_wp2_with fail
                          go_roundw
                          case rel => exact ⟨b + 1, by omega, by go_num, HTd.out⟩
                          case measure => simp [intOf]; omega
                        · have HT := Lib.hid (SET.out (x + y) (by rw [hv]; omega))
                          have HTd := Lib.hid (SETd.out (x + y) (by rw [hv]; omega))
                          clear hv
                          go_wp2_with fail
                          refine wp_region_still_tail 25 (by kernel_rfl) (by kernel_rfl) ?_
                          simp only [List.take_succ_cons, List.take_zero, List.drop_succ_cons, List.drop_zero]
                          repeat still_step
                          refine wpStill_nil ?_
                          change wpList _ _ _ _ _ wr.drew
                          go_wp2_with fail
                          go_roundw
                          case rel => exact ⟨b + 1, by omega, by go_num, HTd.out⟩
                          case measure => simp [intOf]; omega
                  · obtain rfl : b = k := by omega
                    have HT := Lib.hid (HMb.out.congr (fun x y _ hy => mix_line (x := x) hy))
                    go_wp2_with fail
                    go_roundw
                    case rel => exact ⟨a + 1, by omega, by go_num, HT.out⟩
                    case measure => simp [intOf]; omega
              · obtain rfl : a = k := by omega
                have HT := Lib.hid (HMa.out.congr (c' := itF d (q + 1)) (fun x y hx _ => by rw [mix_all hx, HDD.out]))
                have HCC := Lib.hid (show ∀ p, p < q + 1 → contrB a (itF d p) = false from fun p hp => by
                  by_cases e : p = q
                  · subst e; exact HCN.out
                  · exact HC.out p (by omega))
                go_wp2_with fail
                go_roundw
                case rel => exact ⟨q + 1, by omega, by go_num, HT.out, HCC.out⟩
                case measure => simp [intOf]; omega
          · have CN := Lib.hid (contr_any k (itF d q) _ 40 wr (HMq.out.numRows (by omega)) (by omega) true (Lib.hid hcon))
            have HCN := Lib.hid hcon
            clear hcon
            go_wp2_with (go_at_call 62; (with_reducible refine CN.out.mono ?_); rintro e w2 ⟨rfl, hk2⟩)
            go_ret2
            exact least_no (by omega) HCN.out (KW.out.trans hk2)
        · obtain rfl : q = k := by omega
          obtain ⟨j0, hj0, hy0, hy1, hy2⟩ := info30
          have RDK := Lib.hid (fun X (hX : Keeps wr X) => (row_reads HMq.out (by omega)).below hX)
          have NRK := Lib.hid (fun X (hX : Keeps wr X) => (HMq.out.keep hX).numRows (by omega))
          have OUT := Lib.hid (fun X (hX : Keeps wr X) A c (ho : X.ownsRow 0 28 1 (.slice A q c) q (rowVals q gs)) => rows_of_own ho (HMq.out.keep hX))
          have G2 := Lib.hid (rowVals_one q gs)
          have g3 : 0 + q ≤ maxLen := by unfold maxLen; omega
          have g4 : (0 + q) * 24 ≤ 140737488355328 := by omega
          have on := World.ownsRow_nil wr 0 28 1
          cases hcon : contrB q (itF d q)
          · have HCN := Lib.hid hcon; clear hcon
            have HALL := Lib.hid (show ∀ p, p ≤ q → contrB q (itF d p) = false from fun p hp => by
              by_cases e : p = q
              · subst e; exact HCN.out
              · exact HC.out p (by omega))
            go_wp2_with fail
            go_region_held3 (fun w' => Keeps wr w') (((repeat (first | exact Keeps.refl _ | exact hkA | exact hkB | assumption | apply Keeps.drew | apply Keeps.alloc)); done))
              (first | (refine step_append_any _ (by rfl) _ _ _ (by rfl) 0 28 j0 (.slice none 0 0) 1 24 Try.underlying46 hj0 hy0 hy1 hy2 rfl (by decide) (.slice none 0 0) 0 [] (by rfl) (World.ownsRow_nil _ _ _ _) wr.heap.size (some ⟨W1.heap.size, 0, none⟩) q 40 (rowVals q gs) (by rfl) (RDK.out _ (by assumption)) G2.out g3 g4 (Nat.zero_le _) ?_; intro v' w5 hown5 hgrow hat5; have hkA : Keeps wr w5 := grown_keeps (by assumption) hgrow (fun k hk => by simp [Value.ownBlock] at hk); simp only [Nat.zero_add, List.nil_append] at hown5; obtain ⟨A5, c5, hv5⟩ := own_slice hown5; subst hv5; have HO5 := Lib.hid hown5; clear hgrow hat5 hown5) | (go_at_call 62; refine (contr_any q (itF d q) _ 40 _ (NRK.out _ (by assumption)) (by omega) false HCN).mono ?_; rintro e w6 ⟨rfl, hk6⟩; have hkB : Keeps wr w6 := Keeps.trans (by assumption) hk6))
            have OW := Lib.hid (OUT.out _ hkB A5 c5 (own_keeps HO5.out hk6))
            have KK := Lib.hid (KW.out.trans hkB)
            go_wp2_with fail
            go_ret2
            exact least_yes HALL.out OW.out KK.out
          · have HCN := Lib.hid hcon; clear hcon
            go_wp2_with fail
            go_region_held3 (fun w' => Keeps wr w') (((repeat (first | exact Keeps.refl _ | exact hkA | exact hkB | assumption | apply Keeps.drew | apply Keeps.alloc)); done))
              (first | (refine step_append_any _ (by rfl) _ _ _ (by rfl) 0 28 j0 (.slice none 0 0) 1 24 Try.underlying46 hj0 hy0 hy1 hy2 rfl (by decide) (.slice none 0 0) 0 [] (by rfl) (World.ownsRow_nil _ _ _ _) wr.heap.size (some ⟨W1.heap.size, 0, none⟩) q 40 (rowVals q gs) (by rfl) (RDK.out _ (by assumption)) G2.out g3 g4 (Nat.zero_le _) ?_; intro v' w5 hown5 hgrow hat5; have hkA : Keeps wr w5 := grown_keeps (by assumption) hgrow (fun k hk => by simp [Value.ownBlock] at hk); simp only [Nat.zero_add, List.nil_append] at hown5; obtain ⟨A5, c5, hv5⟩ := own_slice hown5; subst hv5; have HO5 := Lib.hid hown5; clear hgrow hat5 hown5) | (go_at_call 62; refine (contr_any q (itF d q) _ 40 _ (NRK.out _ (by assumption)) (by omega) true HCN).mono ?_; rintro e w6 ⟨rfl, hk6⟩; have hkB : Keeps wr w6 := Keeps.trans (by assumption) hk6))
            have KK := Lib.hid (KW.out.trans hkB)
            go_wp2_with fail
            go_ret2
            exact least_no (Nat.le_refl _) HCN.out KK.out
end Go.Proofs.Ythkmpegpmpdhaaa.Df
