import Derived.Test.YtkfcebojfnnieaaC
import Derived.Deep.LoopGhost
import Derived.Deep.OwnRows
import Derived.Deep.Light
import Derived.StillTailTactics
import Derived.Test.YtkfcebojfnnieaaRows
import Derived.WalkKit
import Derived.WalkSpells
import Derived.WalkLawsBesides
import Derived.Laws.EntriesVeiled
import Derived.ProofKit
import Derived.OpenShut
import Derived.Lib.Hide
import Derived.BigQuiet
import Derived.Deep.QuietTactic
import Derived.Below
import Derived.Laws.OwnMore
import Derived.Deep.AppendLies
import Derived.Deep.Draws
import Derived.Laws.Rows
import Derived.Maps.AppendAt
import Derived.RegionTactic
import Derived.OwnWalk
import Derived.Deep.RegionHeld3
namespace Go.Proofs.Ytkfcebojfnnieaa
open Go.ChangeShapes Go.WideShapes Go.ChangeAt Go.RowKit
set_option linter.unusedSimpArgs false
set_option linter.unusedVariables false
theorem info3' : (Try.prog.info? 3).map (fun i => (i.zero, i.size, i.bytes)) = some (some (.int .i64 0), 1, 8) := by kernel_rfl
theorem info22' : (Try.prog.info? 22).map (fun i => (i.zero, i.size, i.bytes)) = some (some (.slice none 0 0), 1, 24) := by kernel_rfl
/-- A list of lists and a number, memory kept. -/
def RowsPost (ls : List (List Int)) (b : Int) (w : World) (e : Ending) (w' : World) : Prop := ∃ A c, e = .returned (.tuple #[.slice A ls.length c, .int .i64 b]) ∧ NumRows w' w'.heap.size A ls ∧ Keeps w w'
theorem since_keeps {w w' : World} (h : w.Since w.heap.size w') : Keeps w w' := ⟨h.os, h.tape, h.output, h.size, h.block⟩
def top (N L r : Nat) : Nat → Value := fun j => if j < r then .slice (some ⟨N + 1 + j, 0, none⟩) L L else .slice none 0 0
structure Outer (w wr : World) (G L : Nat) (r : Nat) (Z : Nat → Nat → Int) : Prop where
  since : w.Since w.heap.size wr
  size : wr.heap.size = w.heap.size + 1 + r
  top : wr.rowIs w.heap.size 22 G (top w.heap.size L r)
  done : ∀ j, j < r → wr.rowIs (w.heap.size + 1 + j) 3 L (fun c => .int .i64 (Z j c))
structure Inner (w wi : World) (G L : Nat) (r c : Nat) (Z : Nat → Nat → Int) : Prop where
  since : w.Since w.heap.size wi
  size : wi.heap.size = w.heap.size + 1 + r + 1
  top : wi.rowIs w.heap.size 22 G (top w.heap.size L (r + 1))
  done : ∀ j, j < r → wi.rowIs (w.heap.size + 1 + j) 3 L (fun c => .int .i64 (Z j c))
  cur : wi.rowIs (w.heap.size + 1 + r) 3 L (fun i => if i < c then .int .i64 (Z r i) else .int .i64 0)
theorem outer_start (w : World) (G L : Nat) (Z : Nat → Nat → Int) : Outer w (w.alloc (.cells (madeCells #[.slice none 0 0] G) 22)) G L 0 Z :=
  ⟨(World.Since.refl _ _).alloc (Nat.le_refl _) _, by simp, (World.rowIs_made w _ G 22).congr (fun j _ => by simp [Ytkfcebojfnnieaa.top]), fun j hj => absurd hj (Nat.not_lt_zero _)⟩
theorem inner_start {w wr : World} {G L r : Nat} {Z : Nat → Nat → Int} (h : Outer w wr G L r Z) :
    Inner w ((wr.alloc (.cells (madeCells #[.int .i64 0] L) 3)).setCell ⟨w.heap.size, r, none⟩ (.slice (some ⟨w.heap.size + 1 + r, 0, none⟩) L L)) G L r 0 Z := by
  have hnew := World.rowIs_made wr (.int .i64 0) L 3
  rw [h.size] at hnew
  refine ⟨(h.since.alloc (by rw [h.size]; omega) _).setCell (Nat.le_refl _) _, by simp [h.size], ((h.top.alloc _).set r _).congr (fun j _ => ?_), fun j hj => ((h.done j hj).alloc _).setOther (by show w.heap.size + 1 + j ≠ w.heap.size; omega) _,
    (hnew.setOther (by show w.heap.size + 1 + r ≠ w.heap.size; omega) _).congr (fun i _ => by simp)⟩
  simp only [Ytkfcebojfnnieaa.top]
  by_cases e : j = r
  · subst e; simp
  · rw [if_neg e]
    by_cases hlt : j < r
    · rw [if_pos hlt, if_pos (by omega)]
    · rw [if_neg hlt, if_neg (by omega)]
theorem inner_step {w wi : World} {G L r c : Nat} {Z : Nat → Nat → Int} (h : Inner w wi G L r c Z) {v : Int} (hv : v = Z r c) :
    Inner w (wi.setCell ⟨w.heap.size + 1 + r, c, none⟩ (.int .i64 v)) G L r (c + 1) Z := by
  subst hv
  refine ⟨(h.since.setCell (by show w.heap.size ≤ w.heap.size + 1 + r; omega) _), by simp [h.size], (h.top.setOther (by show w.heap.size ≠ w.heap.size + 1 + r; omega) _),
    fun j hj => ((h.done j hj).setOther (by show w.heap.size + 1 + j ≠ w.heap.size + 1 + r; omega) _), ((h.cur.set c _).congr (fun i _ => ?_))⟩
  by_cases e : i = c
  · subst e; simp
  · rw [if_neg e]
    by_cases hlt : i < c
    · rw [if_pos hlt, if_pos (by omega)]
    · rw [if_neg hlt, if_neg (by omega)]
theorem inner_drew {w wi : World} {G L r c : Nat} {Z : Nat → Nat → Int} (h : Inner w wi G L r c Z) : Inner w wi.drew G L r c Z := ⟨h.since.drew, h.size, h.top.drew, fun j hj => (h.done j hj).drew, h.cur.drew⟩
theorem inner_done {w wi : World} {G L r : Nat} {Z : Nat → Nat → Int} (h : Inner w wi G L r L Z) : Outer w wi G L (r + 1) Z :=
  ⟨h.since, by rw [h.size]; omega, h.top, fun j hj => by
    by_cases e : j = r
    · subst e
      exact h.cur.congr (fun i hi => by rw [if_pos hi])
    · exact h.done j (by omega)⟩
theorem Nums.of_row {w : World} {g t n : Nat} {f : Nat → Int} {l : List Int} (h : w.rowIs g t n (fun i => .int .i64 (f i))) (hn : l.length = n) (hf : ∀ k x, l[k]? = some x → x = f k) : Nums .i64 w w.heap.size (some ⟨g, 0, none⟩) l := fun k x hx => by
  have hk : k < n := by rw [← hn]; exact (List.getElem?_eq_some_iff.1 hx).1
  exact ⟨g, 0, rfl, h.lt, by rw [Nat.zero_add, h.cell hk, hf k x hx]⟩
theorem outer_rows {w wr : World} {P n k : Nat} (h : Outer w wr k n k (fun j d => (digit P j d : Int))) : NumRows wr wr.heap.size (some ⟨w.heap.size, 0, none⟩) (schemeF P k n) := fun j l hl => by
  have hj : j < k := by have := (List.getElem?_eq_some_iff.1 hl).1; simpa [schemeF] using this
  have hl' : l = rowF P n j := by simpa [schemeF, hj] using hl.symm
  subst hl'
  refine ⟨w.heap.size, 0, some ⟨w.heap.size + 1 + j, 0, none⟩, n, rfl, by rw [h.size]; omega, ?_, ?_⟩
  · rw [Nat.zero_add, h.top.cell hj]; simp [top, hj, rowF]
  · refine Nums.of_row (h.done j hj) (by simp [rowF]) ?_
    intro d x hx
    have hd : d < n := by have := (List.getElem?_eq_some_iff.1 hx).1; simpa [rowF] using this
    have : x = (digit P j d : Int) := by simpa [rowF, hd] using hx.symm
    exact this
theorem schemeF_len (P k n : Nat) : (schemeF P k n).length = k := by simp [schemeF]
theorem rows_post {w w' : World} {P k n : Nat} (h : Outer w w' k n k (fun j d => (digit P j d : Int))) : RowsPost (schemeF P k n) 0 w (.returned (.tuple #[.slice (some ⟨w.heap.size, 0, none⟩) k k, .int .i64 0])) w' :=
  ⟨_, k, by rw [schemeF_len], outer_rows h, since_keeps h.since⟩
theorem digit_int {P k d a : Nat} (h : pw P k = a) : ((digit P k d : Nat) : Int) = (d : Int) / (a : Int) % (P : Int) := by
  unfold digit; rw [← h]; unfold pw; rfl

set_option maxHeartbeats 4000000 in
set_option maxRecDepth 100000 in
theorem scheme_ok (P k n : Nat) (w : World) (hP1 : 2 ≤ P) (hP2 : P ≤ 64) (hk1 : 1 ≤ k) (hk2 : k ≤ 4) (hn : n ≤ 2000) (hle : n ≤ pw P k) :
    Calls Try.prog 15 #[.int .i64 (P : Int), .int .i64 (k : Int), .int .i64 (n : Int)] w (RowsPost (schemeF P k n) 0 w) := by
  have HM := Lib.hid (show machB (P : Int) = true by simp [machB]; omega)
  have hpl := pw_le64 hP2 hk2
  obtain ⟨a, ha⟩ : ∃ a, pw P k = a := ⟨_, rfl⟩
  rw [ha] at hle hpl
  have HA := Lib.hid ha; clear ha
  have t1 : decide ((k : Int) < 1) = false := by simp; omega
  have t2 : decide ((4 : Int) < (k : Int)) = false := by simp; omega
  have t3 : decide ((n : Int) < 0) = false := by simp
  have t4 : decide ((2000 : Int) < (n : Int)) = false := by simp; omega
  have t5 : decide (a < n) = false := by simp; omega
  have t5' : decide ((a : Int) < (n : Int)) = false := by simp; omega
  have hmk23 := run_make_row' (P := Try.prog) 23 22 (.slice none 0 0) 24 Try.underlying23 info22' rfl .i64 .i64 k (by omega) (by omega)
  go_enter Try.func15, Try.ntmps15
  go_wp2_with (first | (go_at_call 29; with_reducible refine (machine_any _ _ true HM.out).mono ?_; rintro e w' ⟨rfl, rfl⟩) | (go_at_call 30; with_reducible refine (power_any P k _ hP2 hk2 a HA.out).mono ?_; rintro e w' ⟨rfl, rfl⟩))
  clear hmk23
  go_loopg [38] k (fun g i wr => ∃ r : Nat, r ≤ k ∧ g = k - r ∧ i = .int .i64 (r : Int) ∧ Outer w wr k n r (fun j d => (digit P j d : Int)))
  case atStart => exact ⟨0, Nat.zero_le _, rfl, rfl, outer_start w k n _⟩
  case round =>
    obtain ⟨r, hr, rfl, rfl, hO⟩ := hrel
    have HO := Lib.hid hO; clear hO
    by_cases hrk : r < k
    · have hsize := HO.out.size
      have hmk22 := run_make_row' (P := Try.prog) 22 3 (.int .i64 0) 8 Try.underlying22 info3' rfl .i64 .i64 n (by omega) (by omega)
      have hst1 : ∀ o, (wr.alloc o).cell? ⟨w.heap.size, r, none⟩ = some (top w.heap.size n r r) := fun o => (HO.out.top.alloc o).cell hrk
      have hst2 : ∀ o, (wr.alloc o).frozen? ⟨w.heap.size, r, none⟩ = false := fun o => (HO.out.top.alloc o).frozen r
      have hrz : (r : Int) < (k : Int) := by omega
      go_wp2_with fail
      have hI0 := inner_start HO.out
      clear hmk22 hst1 hst2 hsize
      go_loopg [47] n (fun g i wi => ∃ c : Nat, c ≤ n ∧ g = n - c ∧ i = .int .i64 (c : Int) ∧ Inner w wi k n r c (fun j d => (digit P j d : Int)))
      case atStart => exact ⟨0, Nat.zero_le _, rfl, rfl, hI0⟩
      case round =>
        obtain ⟨c, hc, rfl, rfl, hI⟩ := hrel
        have HI := Lib.hid hI; clear hI hI0
        by_cases hcn : c < n
        · have u1 : wr.cell? ⟨w.heap.size, r, none⟩ = some (.slice (some ⟨w.heap.size + 1 + r, 0, none⟩) n n) := by simpa [top] using HI.out.top.cell hrk
          have u2 : wr.cell? ⟨w.heap.size + 1 + r, c, none⟩ = some (.int .i64 0) := by simpa using HI.out.cur.cell hcn
          have u3 : wr.frozen? ⟨w.heap.size + 1 + r, c, none⟩ = false := HI.out.cur.frozen c
          have hcz : (c : Int) < (n : Int) := by omega
          obtain ⟨b, hb⟩ : ∃ b, pw P r = b := ⟨_, rfl⟩
          have HB := Lib.hid hb
          have hb0 : 1 ≤ b := by rw [← hb]; exact Nat.pow_pos (by omega)
          have hb1 := pw_le64 hP2 (show r ≤ 4 by omega)
          rw [hb] at hb1
          clear hb
          go_wp2_with fail
          refine wp_region_still_tail 13 (by kernel_rfl) (by kernel_rfl) ?_
          simp only [List.take_succ_cons, List.take_zero, List.drop_succ_cons, List.drop_zero]
          repeat still_step
          still_call ((power_any P r _ hP2 (by omega) b HB.out).mono fun _ _ h => ⟨h.1, h.2.symm⟩)
          have hbz : ¬ b = 0 := by omega
          have hPz : ¬ P = 0 := by omega
          have hwq : IntKind.i64.wrap ((c : Int) / (b : Int)) = (c : Int) / (b : Int) := IntWalk.i64_in _ ⟨by have := Int.ediv_nonneg (a := c) (b := b) (by omega) (by omega); omega, by have := Int.ediv_le_self (a := c) (b := b) (by omega); omega⟩
          have hq0 : (0 : Int) ≤ (c : Int) / (b : Int) := Int.ediv_nonneg (by omega) (by omega)
          repeat still_step
          refine wpStill_nil ?_
          change wpList _ _ _ _ _ wr.drew
          have HS := Lib.hid (inner_step (inner_drew HI.out) (v := (c : Int) / (b : Int) % (P : Int)) (by exact (digit_int HB.out).symm))
          have hcw : IntKind.i64.wrap ((c : Int) + 1) = (c : Int) + 1 := IntWalk.i64_in _ (by omega)
          go_wp2_with fail
          go_roundg (n - (c + 1))
          case measure => go_light; omega
          case rel => go_light; exact ⟨c + 1, by omega, rfl, by go_num, HS.out⟩
        · obtain rfl : c = n := by omega
          have HD := Lib.hid (inner_done HI.out)
          have hrw : IntKind.i64.wrap ((r : Int) + 1) = (r : Int) + 1 := IntWalk.i64_in _ (by omega)
          go_wp2_with fail
          go_roundg (k - (r + 1))
          case measure => go_light; omega
          case rel => go_light; exact ⟨r + 1, by omega, rfl, by go_num, HD.out⟩
    · obtain rfl : r = k := by omega
      have HR := Lib.hid (rows_post HO.out)
      go_wp2_with fail
      go_ret2
      exact HR.out

def argS (P k n : Int) : Bool := machB P && ((decide (1 ≤ k) && decide (k ≤ 4)) && (decide (0 ≤ n) && decide (n ≤ 2000)))
theorem rows_nil (b : Int) (w : World) : RowsPost [] b w (.returned (.tuple #[.slice none 0 0, .int .i64 b])) w := ⟨none, 0, rfl, fun k l h => by simp at h, Keeps.refl _⟩

set_option maxHeartbeats 1000000 in
theorem scheme_bad (P k n : Int) (w : World) (h : argS P k n = false) : Calls Try.prog 15 #[.int .i64 P, .int .i64 k, .int .i64 n] w (RowsPost [] 1 w) := by
  have h2 : ¬ (2 ≤ P ∧ P ≤ 64 ∧ 1 ≤ k ∧ k ≤ 4 ∧ 0 ≤ n ∧ n ≤ 2000) := by simp [argS, machB] at h; omega
  clear h
  cases hm : machB P
  · have HM := Lib.hid hm; clear hm
    clear h2
    go_enter Try.func15, Try.ntmps15
    go_wp2_with (go_at_call 29; with_reducible refine (machine_any _ _ false HM.out).mono ?_; rintro e w' ⟨rfl, rfl⟩)
    go_ret2
    exact rows_nil _ _
  have hmm := hm
  simp [machB] at hmm
  have HM := Lib.hid hm; clear hm
  by_cases t0 : k < 1
  · have t0' : decide (k < 1) = true := by simpa using t0
    clear h2
    go_enter Try.func15, Try.ntmps15
    go_wp2_with (go_at_call 29; with_reducible refine (machine_any _ _ true HM.out).mono ?_; rintro e w' ⟨rfl, rfl⟩)
    go_ret2
    exact rows_nil _ _
  have t0' : decide (k < 1) = false := by simpa using t0
  by_cases t1 : 4 < k
  · have t1' : decide (4 < k) = true := by simpa using t1
    clear h2
    go_enter Try.func15, Try.ntmps15
    go_wp2_with (go_at_call 29; with_reducible refine (machine_any _ _ true HM.out).mono ?_; rintro e w' ⟨rfl, rfl⟩)
    go_ret2
    exact rows_nil _ _
  have t1' : decide (4 < k) = false := by simpa using t1
  by_cases t2 : n < 0
  · have t2' : decide (n < 0) = true := by simpa using t2
    clear h2
    go_enter Try.func15, Try.ntmps15
    go_wp2_with (go_at_call 29; with_reducible refine (machine_any _ _ true HM.out).mono ?_; rintro e w' ⟨rfl, rfl⟩)
    go_ret2
    exact rows_nil _ _
  have t2' : decide (n < 0) = false := by simpa using t2
  have t3 : 2000 < n := by omega
  have t3' : decide (2000 < n) = true := by simpa using t3
  clear h2
  go_enter Try.func15, Try.ntmps15
  go_wp2_with (go_at_call 29; with_reducible refine (machine_any _ _ true HM.out).mono ?_; rintro e w' ⟨rfl, rfl⟩)
  go_ret2
  exact rows_nil _ _

set_option maxHeartbeats 1000000 in
theorem scheme_few (P k n : Nat) (w : World) (hP1 : 2 ≤ P) (hP2 : P ≤ 64) (hk1 : 1 ≤ k) (hk2 : k ≤ 4) (hn : n ≤ 2000) (hle : pw P k < n) :
    Calls Try.prog 15 #[.int .i64 (P : Int), .int .i64 (k : Int), .int .i64 (n : Int)] w (RowsPost [] 140 w) := by
  have HM := Lib.hid (show machB (P : Int) = true by simp [machB]; omega)
  obtain ⟨a, ha⟩ : ∃ a, pw P k = a := ⟨_, rfl⟩
  rw [ha] at hle
  have HA := Lib.hid ha; clear ha
  have p0 : decide ((P : Int) < 2) = false := by simp; omega
  have p1 : decide ((64 : Int) < (P : Int)) = false := by simp; omega
  have t1 : decide ((k : Int) < 1) = false := by simp; omega
  have t2 : decide ((4 : Int) < (k : Int)) = false := by simp; omega
  have t3 : decide ((n : Int) < 0) = false := by simp
  have t4 : decide ((2000 : Int) < (n : Int)) = false := by simp; omega
  have t5 : decide (a < n) = true := by simp; omega
  have t5' : decide ((a : Int) < (n : Int)) = true := by simp; omega
  go_enter Try.func15, Try.ntmps15
  go_wp2_with (first | (go_at_call 29; with_reducible refine (machine_any _ _ true HM.out).mono ?_; rintro e w' ⟨rfl, rfl⟩) | (go_at_call 30; with_reducible refine (power_any P k _ hP2 hk2 a HA.out).mono ?_; rintro e w' ⟨rfl, rfl⟩))
  go_ret2
  exact rows_nil _ _

set_option maxHeartbeats 1000000 in
theorem rscheme_bad (P k n : Int) (w : World) (h : argS P k n = false) : Calls Try.prog 16 #[.int .i64 P, .int .i64 k, .int .i64 n] w (RowsPost [] 1 w) := by
  have h2 : ¬ (2 ≤ P ∧ P ≤ 64 ∧ 1 ≤ k ∧ k ≤ 4 ∧ 0 ≤ n ∧ n ≤ 2000) := by simp [argS, machB] at h; omega
  clear h
  by_cases p0 : P < 2
  · have p0' : decide (P < 2) = true := by simpa using p0
    clear h2
    go_enter Try.func16, Try.ntmps16
    go_wp2
    go_ret2
    exact rows_nil _ _
  have p0' : decide (P < 2) = false := by simpa using p0
  by_cases p1 : 64 < P
  · have p1' : decide (64 < P) = true := by simpa using p1
    clear h2
    go_enter Try.func16, Try.ntmps16
    go_wp2
    go_ret2
    exact rows_nil _ _
  have p1' : decide (64 < P) = false := by simpa using p1
  by_cases t0 : k < 1
  · have t0' : decide (k < 1) = true := by simpa using t0
    clear h2
    go_enter Try.func16, Try.ntmps16
    go_wp2
    go_ret2
    exact rows_nil _ _
  have t0' : decide (k < 1) = false := by simpa using t0
  by_cases t1 : 4 < k
  · have t1' : decide (4 < k) = true := by simpa using t1
    clear h2
    go_enter Try.func16, Try.ntmps16
    go_wp2
    go_ret2
    exact rows_nil _ _
  have t1' : decide (4 < k) = false := by simpa using t1
  by_cases t2 : n < 0
  · have t2' : decide (n < 0) = true := by simpa using t2
    clear h2
    go_enter Try.func16, Try.ntmps16
    go_wp2
    go_ret2
    exact rows_nil _ _
  have t2' : decide (n < 0) = false := by simpa using t2
  have t3 : 2000 < n := by omega
  have t3' : decide (2000 < n) = true := by simpa using t3
  clear h2
  go_enter Try.func16, Try.ntmps16
  go_wp2
  go_ret2
  exact rows_nil _ _

set_option maxHeartbeats 1000000 in
theorem rscheme_few (P k n : Nat) (w : World) (hP1 : 2 ≤ P) (hP2 : P ≤ 64) (hk1 : 1 ≤ k) (hk2 : k ≤ 4) (hn : n ≤ 2000) (hle : pw P k < n) :
    Calls Try.prog 16 #[.int .i64 (P : Int), .int .i64 (k : Int), .int .i64 (n : Int)] w (RowsPost [] 140 w) := by
  have HM := Lib.hid (show machB (P : Int) = true by simp [machB]; omega)
  obtain ⟨a, ha⟩ : ∃ a, pw P k = a := ⟨_, rfl⟩
  rw [ha] at hle
  have HA := Lib.hid ha; clear ha
  have p0 : decide ((P : Int) < 2) = false := by simp; omega
  have p1 : decide ((64 : Int) < (P : Int)) = false := by simp; omega
  have t1 : decide ((k : Int) < 1) = false := by simp; omega
  have t2 : decide ((4 : Int) < (k : Int)) = false := by simp; omega
  have t3 : decide ((n : Int) < 0) = false := by simp
  have t4 : decide ((2000 : Int) < (n : Int)) = false := by simp; omega
  have t5 : decide (a < n) = true := by simp; omega
  have t5' : decide ((a : Int) < (n : Int)) = true := by simp; omega
  go_enter Try.func16, Try.ntmps16
  go_wp2_with (first | (go_at_call 27; with_reducible refine (rpower_any P k _ hP2 hk2 a HA.out).mono ?_; rintro e w' ⟨rfl, rfl⟩))
  go_ret2
  exact rows_nil _ _
theorem own_grown {w w' : World} {base : Nat} {e : TypeId} {size n : Nat} {v : Value} {xs : List Value} {row : Option Nat} (h : w.ownsRow base e size v n xs) (hg : w.grownBy w' row) (hne : ∀ k, v.ownBlock = some k → row ≠ some k) : w'.ownsRow base e size v n xs := by
  refine ⟨h.1, ?_⟩
  rcases h.2 with hn | ⟨g, cap, cur, rfl, hb', hgg, rest⟩
  · exact .inl hn
  · refine .inr ⟨g, cap, cur, rfl, hb', ?_, rest⟩
    have hlt : g < w.heap.size := (Array.getElem?_eq_some_iff.1 hgg).1
    rw [hg.block g hlt (fun e => hne g rfl e.symm)]; exact hgg
theorem own_weak {w : World} {base base' : Nat} {e : TypeId} {size n : Nat} {v : Value} {xs : List Value} (h : w.ownsRow base e size v n xs) (hb : base' ≤ base) : w.ownsRow base' e size v n xs := by
  refine ⟨h.1, ?_⟩
  rcases h.2 with hn | ⟨g, cap, cur, rfl, hb', rest⟩
  · exact .inl hn
  · exact .inr ⟨g, cap, cur, rfl, Nat.le_trans hb hb', rest⟩
theorem own_own_ne {w : World} {base base' : Nat} {e e' : TypeId} {size size' n n' : Nat} {v v' : Value} {xs xs' : List Value} (h : w.ownsRow base e size v n xs) (h' : w.ownsRow base' e' size' v' n' xs') (hne : e ≠ e') :
    ∀ k, v.ownBlock = some k → v'.ownBlock ≠ some k := by
  intro k hk hk'
  rcases h.2 with ⟨rfl, _⟩ | ⟨g, cap, cur, rfl, _, hgg, _⟩
  · simp [Value.ownBlock] at hk
  rcases h'.2 with ⟨rfl, _⟩ | ⟨g', cap', cur', rfl, _, hgg', _⟩
  · simp [Value.ownBlock] at hk'
  simp [Value.ownBlock] at hk hk'
  subst hk; subst hk'
  rw [hgg] at hgg'
  injection hgg' with h1
  injection h1 with _ h2
  exact hne h2
structure RS (w wr : World) (P n r : Nat) (v : Value) (vs : List Value) : Prop where
  own : wr.ownsRow w.heap.size 22 1 v r vs
  rows : ∀ j, j < r → ∃ u, vs[j]? = some u ∧ wr.ownsRow w.heap.size 3 1 u n (intCells .i64 (rowF P n j))
  keeps : Keeps w wr
theorem RS.start (w : World) (P n : Nat) : RS w w P n 0 (.slice none 0 0) [] := ⟨World.ownsRow_nil _ _ _ _, fun j hj => absurd hj (Nat.not_lt_zero _), Keeps.refl _⟩
theorem RS.len {w wr : World} {P n r : Nat} {v : Value} {vs : List Value} (h : RS w wr P n r v vs) : vs.length = r := by have := h.own.1; simpa using this
theorem RS.step {w wr wi w5 : World} {P n r : Nat} {v v' u : Value} {vs : List Value} (h : RS w wr P n r v vs) (hk : Keeps wr wi) (hu : wi.ownsRow wr.heap.size 3 1 u n (intCells .i64 (rowF P n r)))
    (ho : w5.ownsRow w.heap.size 22 1 v' (r + 1) (vs ++ [u])) (hg : (wi.alloc (.cells #[u] 22)).grownBy w5 v.ownBlock) : RS w w5 P n (r + 1) v' (vs ++ [u]) := by
  have hka : Keeps wi (wi.alloc (.cells #[u] 22)) := (Keeps.refl wi).alloc _
  have hva := own_keeps (own_keeps h.own hk) hka
  refine ⟨ho, fun j hj => ?_, grown_keeps ((h.keeps.trans hk).trans hka) hg (fun k e => (own_lt h.own e).1)⟩
  by_cases e : j < r
  · obtain ⟨x, hx, hox⟩ := h.rows j e
    refine ⟨x, by rw [List.getElem?_append_left (by rw [h.len]; exact e)]; exact hx, ?_⟩
    exact own_grown (own_keeps (own_keeps hox hk) hka) hg (fun k hk1 hk2 => own_own_ne (own_keeps (own_keeps hox hk) hka) hva (by decide) k hk1 hk2)
  · obtain rfl : j = r := by omega
    refine ⟨u, by rw [List.getElem?_append_right (by rw [h.len]; exact Nat.le_refl _), h.len]; simp, ?_⟩
    have hu' := own_keeps (own_weak hu h.keeps.size) hka
    exact own_grown hu' hg (fun k hk1 hk2 => own_own_ne hu' hva (by decide) k hk1 hk2)
theorem RS.post {w wr : World} {P n k : Nat} {v : Value} {vs : List Value} (h : RS w wr P n k v vs) : RowsPost (schemeF P k n) 0 w (.returned (.tuple #[v, .int .i64 0])) wr := by
  obtain ⟨A, c, rfl⟩ := own_slice h.own
  refine ⟨A, c, by rw [schemeF_len], fun j l hl => ?_, h.keeps⟩
  have hj : j < k := by have := (List.getElem?_eq_some_iff.1 hl).1; simpa [schemeF] using this
  have hl' : l = rowF P n j := by simpa [schemeF, hj] using hl.symm
  subst hl'
  obtain ⟨u, hu, hou⟩ := h.rows j hj
  obtain ⟨A', c', rfl⟩ := own_slice hou
  obtain ⟨ad, he, hb, hc⟩ := (Reads.of_own h.own).2 (by omega)
  rcases h.own.2 with ⟨h0, h1⟩ | ⟨g, cap, cur, hv, _, hgg, _⟩
  · omega
  injection hv with hA
  rw [hA] at he
  injection he with he
  subst he
  have hcj := hc j _ hu
  have fix : (⟨g, 0, none⟩ : Addr).add j = ⟨g, 0 + j, none⟩ := by unfold Addr.add; split <;> simp_all
  rw [fix] at hcj
  exact ⟨g, 0, A', c', hA, hb, by rw [hcj]; simp [rowF], Nums.of_own hou (by simp [rowF])⟩
theorem rowF_take_succ {P n k c : Nat} (hc : c < n) : (rowF P n k).take (c + 1) = (rowF P n k).take c ++ [((digit P k c : Nat) : Int)] := by
  rw [List.take_add_one]
  simp [rowF, hc]
theorem info22 : ∃ i, Try.prog.info? 22 = some i ∧ i.zero = some (.slice none 0 0) ∧ i.size = 1 ∧ i.bytes = 24 := by
  have h := info22'
  cases hi : Try.prog.info? 22 with
  | none => rw [hi] at h; cases h
  | some i =>
    rw [hi] at h
    simp only [Option.map_some, Option.some.injEq, Prod.mk.injEq] at h
    exact ⟨i, rfl, h.1, h.2.1, h.2.2⟩
set_option maxHeartbeats 4000000 in
set_option maxRecDepth 100000 in
theorem rscheme_ok (P k n : Nat) (w : World) (hP1 : 2 ≤ P) (hP2 : P ≤ 64) (hk1 : 1 ≤ k) (hk2 : k ≤ 4) (hn : n ≤ 2000) (hle : n ≤ pw P k) :
    Calls Try.prog 16 #[.int .i64 (P : Int), .int .i64 (k : Int), .int .i64 (n : Int)] w (RowsPost (schemeF P k n) 0 w) := by
  obtain ⟨i0, hi0, hz0, hz1, hz2⟩ := info3
  obtain ⟨j0, hj0, hy0, hy1, hy2⟩ := info22
  have hpl := pw_le64 hP2 hk2
  obtain ⟨a, ha⟩ : ∃ a, pw P k = a := ⟨_, rfl⟩
  rw [ha] at hle hpl
  have HA := Lib.hid ha; clear ha
  have p0 : decide ((P : Int) < 2) = false := by simp; omega
  have p1 : decide ((64 : Int) < (P : Int)) = false := by simp; omega
  have t1 : decide ((k : Int) < 1) = false := by simp; omega
  have t2 : decide ((4 : Int) < (k : Int)) = false := by simp; omega
  have t3 : decide ((n : Int) < 0) = false := by simp
  have t4 : decide ((2000 : Int) < (n : Int)) = false := by simp; omega
  have t5 : decide (a < n) = false := by simp; omega
  have t5' : decide ((a : Int) < (n : Int)) = false := by simp; omega
  go_enter Try.func16, Try.ntmps16
  go_wp2_with (go_at_call 27; with_reducible refine (rpower_any P k _ hP2 hk2 a HA.out).mono ?_; rintro e w' ⟨rfl, rfl⟩)
  go_loopw [8, 9] (fun v i wr => ∃ (r : Nat) (vs : List Value), r ≤ k ∧ i = .int .i64 (r : Int) ∧ RS w wr P n r v vs) (fun _ i _ => k - (intOf i).toNat)
  case atStart => exact ⟨0, [], by omega, rfl, RS.start _ _ _⟩
  case round =>
    obtain ⟨r, vs, hr, rfl, hR⟩ := hrel
    have HR := Lib.hid hR; clear hR
    obtain ⟨wo, rfl⟩ : ∃ wo : World, wo = wr := ⟨_, rfl⟩
    by_cases hrk : r < k
    · have hrz : (r : Int) < (k : Int) := by omega
      have hrw : IntKind.i64.wrap ((r : Int) + 1) = (r : Int) + 1 := IntWalk.i64_in _ (by omega)
      obtain ⟨b, hb⟩ : ∃ b, pw P r = b := ⟨_, rfl⟩
      have HB := Lib.hid hb
      have hb0 : 1 ≤ b := by rw [← hb]; exact Nat.pow_pos (by omega)
      have hb1 := pw_le64 hP2 (show r ≤ 4 by omega)
      rw [hb] at hb1
      clear hb
      go_wp2_with fail
      have hown0 := World.ownsRow_lit (base := wo.heap.size) (e := 3) (size := 1) wo #[] 0 (Nat.le_refl _) (by unfold maxLen; omega) rfl
      have hk0 : Keeps wo (wo.alloc (.cells #[] 3)) := (Keeps.refl wo).alloc _
      go_loopw [10, 11] (fun u i wi => ∃ c : Nat, c ≤ n ∧ i = .int .i64 (c : Int) ∧ wi.ownsRow wo.heap.size 3 1 u c (intCells .i64 ((rowF P n r).take c)) ∧ Keeps wo wi) (fun _ i _ => n - (intOf i).toNat)
      case atStart => exact ⟨0, by omega, rfl, hown0, hk0⟩
      case round =>
        clear hown0 hk0
        obtain ⟨c, hc, rfl, hown, hK⟩ := hrel
        by_cases hcn : c < n
        · have hcz : (c : Int) < (n : Int) := by omega
          have hcw : IntKind.i64.wrap ((c : Int) + 1) = (c : Int) + 1 := IntWalk.i64_in _ (by omega)
          have hq1 : (c : Int) / (b : Int) ≤ (c : Int) := Int.ediv_le_self (b := (b : Int)) (by omega)
          have hq0 : (0 : Int) ≤ (c : Int) / (b : Int) := Int.ediv_nonneg (by omega) (by omega)
          have HD := Lib.hid (digit_int (d := c) HB.out)
          have HT := Lib.hid (rowF_take_succ (P := P) (k := r) hcn)
          have hb0i : (1 : Int) ≤ (b : Int) := by omega
          have hP0i : (1 : Int) ≤ (P : Int) := by omega
          obtain ⟨z, hz⟩ : ∃ z, (c : Int) / (b : Int) % (P : Int) = z := ⟨_, rfl⟩
          have HZ := Lib.hid hz; clear hz
          have nn := hown.alloc (.cells #[Value.int .i64 ((c : Int) / (b : Int) % (P : Int))] 3)
          have G1 := Lib.hid (World.news_of_block (cs := #[.int .i64 ((c : Int) / (b : Int) % (P : Int))]) (t := 3) (fr := (0, 0)) (heap_alloc_new wr (.cells #[.int .i64 ((c : Int) / (b : Int) % (P : Int))] 3)))
          have G2 := Lib.hid (show ∀ u ∈ [Value.int .i64 ((c : Int) / (b : Int) % (P : Int))], u.oneCell' = true by simp [Value.oneCell'])
          have g3 : c + 1 ≤ maxLen := by unfold maxLen; omega
          have g4 : (c + 1) * 8 ≤ 140737488355328 := by omega
          have hK4 := hK.alloc (.cells #[Value.int .i64 ((c : Int) / (b : Int) % (P : Int))] 3)
          have G5 := Lib.hid hK4.size
          have NN := Lib.hid nn
          go_wp2_with (first | (go_at_call 27; with_reducible refine (rpower_any P r _ hP2 (by omega) b HB.out).mono ?_; rintro e w' ⟨rfl, rfl⟩) | (at_builtin; refine (wpList_append_own _ rfl (.tmp 50) (.tmp 58) 22 rfl wo.heap.size 3 i0 (.int .i64 0) 1 8 Try.underlying22 hi0 hz0 hz1 hz2 rfl (by decide) _ _ _ rfl nn ⟨wr.heap.size, 0, none⟩ 1 1 [.int .i64 ((c : Int) / (b : Int) % (P : Int))] rfl rfl G1.out G2.out g3 g4 G5.out ?_); intro v' w5 hown5 hgrow _))
          have hK5 : Keeps wo w5 := grown_keeps hK4 hgrow (fun k hk => (own_lt NN.out hk).1)
          go_roundw
          case rel => exact ⟨c + 1, by omega, by go_num, by rw [HT.out, intCells_append, HD.out]; exact hown5, hK5⟩
          case measure => simp [intOf]; omega
        · obtain rfl : c = n := by omega
          rw [take_all (by simp [rowF])] at hown
          obtain ⟨A1, c1, rfl⟩ := own_slice hown
          have HOW := Lib.hid hown; clear hown
          have nn := (own_keeps HR.out.own hK).alloc (.cells #[Value.slice A1 c c1] 22)
          have G1 := Lib.hid (World.news_of_block (cs := #[.slice A1 c c1]) (t := 22) (fr := (0, 0)) (heap_alloc_new wr (.cells #[.slice A1 c c1] 22)))
          have G2 := Lib.hid (show ∀ u ∈ [Value.slice A1 c c1], u.oneCell' = true by simp [Value.oneCell'])
          have g3 : r + 1 ≤ maxLen := by unfold maxLen; omega
          have g4 : (r + 1) * 24 ≤ 140737488355328 := by omega
          have hK4 := (HR.out.keeps.trans hK).alloc (.cells #[Value.slice A1 c c1] 22)
          have G5 := Lib.hid hK4.size
          go_wp2_with (at_builtin; refine (wpList_append_own _ rfl (.tmp 60) (.tmp 62) 23 rfl w.heap.size 22 j0 (.slice none 0 0) 1 24 Try.underlying23 hj0 hy0 hy1 hy2 rfl (by decide) _ _ _ rfl nn ⟨wr.heap.size, 0, none⟩ 1 1 [.slice A1 c c1] rfl rfl G1.out G2.out g3 g4 G5.out ?_); intro v' w5 hown5 hgrow _)
          have HRN := Lib.hid (HR.out.step hK HOW.out hown5 hgrow)
          go_roundw
          case rel => exact ⟨r + 1, _, by omega, by go_num, HRN.out⟩
          case measure => simp [intOf]; omega
    · obtain rfl : r = k := by omega
      have HP := Lib.hid HR.out.post
      go_wp2_with fail
      go_ret2
      exact HP.out
end Go.Proofs.Ytkfcebojfnnieaa
