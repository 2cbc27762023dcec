/- Part of the proof of TopOwnItem. Conditions: as stated in each theorem. -/
import Derived.Test.YthkmpegpmpdhaaaGreatDoorZNa
import Derived.Test.YthkmpegpmpdhaaaGreatDoorProg
import Derived.Test.YthkmpegpmpdhaaaGreatDoorZNe
import Derived.WalkMore
import Derived.LoopN
import Derived.Lib.ConvBytes
import Derived.Maps.OwnIn
import Derived.Deep.LoopGhost
import Derived.RangeFuncNested
import Derived.RangeFuncCalls
import Derived.RangeFuncLeaves
import Derived.RangeFuncWrites
import Derived.Shelf.Abstract
import Derived.Shelf.RegionOpen
import Derived.OwnWalkIn
import Derived.TacticsInMore
import Derived.LoopNIn
import Derived.LoopIn
import Derived.RangeFuncBound
import Derived.Deep.WholeRow
import Derived.WalkKit
import Derived.WalkSpells
import Derived.WalkLawsBesides
import Derived.Laws.EntriesVeiled
import Derived.ProofKit
import Derived.OpenShut
import Derived.Lib.Hide
import Derived.BigQuiet
import Derived.Deep.QuietTactic
import Derived.Deep.CutRange
import Derived.StillTailTactics
import Derived.Lib.SliceRun
import Derived.RangeFuncRecord
import Derived.Carry
import Derived.ChangeKeysEq
import Derived.Below
import Derived.Laws.OwnMore
import Derived.Deep.AppendLies
import Derived.Deep.Draws
import Derived.Laws.Rows
import Derived.Maps.AppendAt
import Derived.RegionTactic
import Derived.OwnWalk
import Derived.Deep.RegionHeld3
namespace Go.Proofs.YthkmpegpmpdhaaaGreatDoor
section
open Go.Shelf Go.ChangeShapes Go.WideShapes Go.ChangeAt Go.RowKit
set_option linter.unusedSimpArgs false
set_option linter.unusedVariables false
/-- The cells of a matrix of the survey. -/
def matC (f : Nat → Int) : Array Value := ((List.range 144).map fun i => Value.int .i64 (f i)).toArray
theorem matC_size (f : Nat → Int) : (matC f).size = 144 := by simp [matC]
theorem matC_at (f : Nat → Int) {k : Nat} (h : k < 144) : (matC f)[k]? = some (.int .i64 (f k)) := by simp [matC, h]
theorem matC_ext {f g : Nat → Int} (h : ∀ i, i < 144 → f i = g i) : matC f = matC g := by
  unfold matC
  congr 1
  exact List.map_congr_left (fun i hi => by rw [h i (List.mem_range.1 hi)])
theorem matC_set (f : Nat → Int) (k : Nat) (v : Int) : (matC f).setIfInBounds k (.int .i64 v) = matC (fun i => if i = k then v else f i) := by
  apply Array.ext_getElem?
  intro i
  rw [Array.getElem?_setIfInBounds]
  by_cases hi : i < 144
  · rw [matC_at (fun i => if i = k then v else f i) hi]
    by_cases hk : k = i
    · subst hk
      rw [if_pos rfl, if_pos (by rw [matC_size]; exact hi)]
      simp
    · rw [if_neg hk, matC_at f hi, if_neg (fun e => hk e.symm)]
  · rw [Array.getElem?_eq_none (by rw [matC_size]; omega : (matC fun i => if i = k then v else f i).size ≤ i), Array.getElem?_eq_none (by rw [matC_size]; omega : (matC f).size ≤ i)]
    by_cases hk : k = i
    · rw [if_pos hk, if_neg (by rw [matC_size]; omega)]
    · rw [if_neg hk]
theorem matC_one (f : Nat → Int) : (matC f).all (·.oneCell') = true := by
  simp [matC, Value.oneCell']
theorem mat_cell {w : World} {mb : Nat} {f : Nat → Int} (h : Blk w mb 259 (matC f)) {k : Nat} (hk : k < 144) : w.cell? ⟨mb, k, none⟩ = some (.int .i64 (f k)) := by
  rw [h.cell k]; exact matC_at f hk
set_option maxHeartbeats 2000000 in
set_option maxRecDepth 100000 in
/-- A way that is no shorter leaves the matrix. -/
theorem relax_keep (f : Nat → Int) (a b mb : Nat) (v : Int) (w : World) (h : Blk w mb 259 (matC f)) (ha : a < 12) (hb : b < 12) (h1 : f (a * 12 + b) ≠ -1) (h2 : f (a * 12 + b) ≤ v) :
    Calls Tryz.prog 215 #[.int .i64 (a : Int), .int .i64 (b : Int), .int .i64 v, .pointer (some ⟨mb, 0, none⟩)] w fun e w' => e = .returned (.tuple #[]) ∧ w' = w := by
  have hc := mat_cell h (show a * 12 + b < 144 by omega)
  generalize f (a * 12 + b) = x at *
  have a0 : (0 : Int) ≤ (a : Int) := by omega
  have a1 : (a : Int) < 12 := by omega
  have b0 : (0 : Int) ≤ (b : Int) := by omega
  have b1 : (b : Int) < 12 := by omega
  have e1 : decide (x = -1) = false := by simp [h1]
  have e1' : (x == -1) = false := by simp [h1]
  have e2 : decide (v < x) = false := by simp; omega
  clear h h1 h2
  go_enter Tryz.func215, Tryz.ntmps215
  go_wp2_with fail
  exact bodyPost_end (results_none rfl _ _ _) rfl ⟨rfl, rfl⟩
set_option maxHeartbeats 2000000 in
set_option maxRecDepth 100000 in
/-- A shorter way, or a first one, is laid down. -/
theorem relax_set (f : Nat → Int) (a b mb : Nat) (v : Int) (w : World) (h : Blk w mb 259 (matC f)) (ha : a < 12) (hb : b < 12) (h1 : f (a * 12 + b) = -1) :
    Calls Tryz.prog 215 #[.int .i64 (a : Int), .int .i64 (b : Int), .int .i64 v, .pointer (some ⟨mb, 0, none⟩)] w fun e w' => e = .returned (.tuple #[]) ∧ w' = w.setCell ⟨mb, a * 12 + b, none⟩ (.int .i64 v) := by
  have hc := mat_cell h (show a * 12 + b < 144 by omega)
  rw [h1] at hc
  have f0 := h.frozen (a * 12 + b)
  have a0 : (0 : Int) ≤ (a : Int) := by omega
  have a1 : (a : Int) < 12 := by omega
  have b0 : (0 : Int) ≤ (b : Int) := by omega
  have b1 : (b : Int) < 12 := by omega
  clear h h1
  go_enter Tryz.func215, Tryz.ntmps215
  go_wp2_with fail
  exact bodyPost_end (results_none rfl _ _ _) rfl ⟨rfl, rfl⟩
/-- The matrix while it is laid out; the distances. -/
def iniF (n : Nat) : Nat → Int := fun i => if i < n ∧ i / 12 ≠ i % 12 then -1 else 0
def finF : Nat → Int := fun i => if i = 12 then 60 else if i = 1 then 120 else if i % 13 = 0 then 0 else -1
theorem iniF_ne {a b : Nat} (ha : a < 12) (hb : b < 12) (h : a ≠ b) : (fun i => if i = a * 12 + b then (-1 : Int) else iniF (12 * a + b) i) = iniF (12 * a + (b + 1)) := by
  funext i
  unfold iniF
  by_cases e : i = a * 12 + b
  · subst e
    rw [if_pos rfl, if_pos]
    omega
  · rw [if_neg e]
    by_cases h1 : i < 12 * a + b ∧ i / 12 ≠ i % 12
    · rw [if_pos h1, if_pos (by omega)]
    · rw [if_neg h1, if_neg (by omega)]
theorem iniF_eq {a : Nat} (ha : a < 12) : iniF (12 * a + (a + 1)) = iniF (12 * a + a) := by
  funext i
  unfold iniF
  by_cases h1 : i < 12 * a + a ∧ i / 12 ≠ i % 12
  · rw [if_pos h1, if_pos (by omega)]
  · rw [if_neg h1, if_neg (by omega)]
theorem finF_ini : matC (fun i => if i = 12 then (60 : Int) else (fun i => if i = 1 then (120 : Int) else iniF 144 i) i) = matC finF := by
  refine matC_ext (fun i hi => ?_)
  have : (List.range 144).all (fun i => (if i = 12 then (60 : Int) else (fun i => if i = 1 then (120 : Int) else iniF 144 i) i) == finF i) = true := by decide +kernel
  exact eq_of_beq (List.all_eq_true.1 this i (List.mem_range.2 hi))
theorem fin_bd {i : Nat} (h : i < 144) : -1 ≤ finF i ∧ finF i ≤ 120 := by
  have : (List.range 144).all (fun i => decide (-1 ≤ finF i ∧ finF i ≤ 120)) = true := by decide +kernel
  exact of_decide_eq_true (List.all_eq_true.1 this i (List.mem_range.2 h))
theorem fin_tri {a b o : Nat} (ha : a < 12) (hb : b < 12) (ho : o < 12) (h1 : finF (a * 12 + o) ≠ -1) (h2 : finF (o * 12 + b) ≠ -1) : finF (a * 12 + b) ≠ -1 ∧ finF (a * 12 + b) ≤ finF (a * 12 + o) + finF (o * 12 + b) := by
  have : (List.range 12).all (fun a => (List.range 12).all (fun b => (List.range 12).all (fun o => (finF (a * 12 + o) == -1) || ((finF (o * 12 + b) == -1) || decide (finF (a * 12 + b) ≠ -1 ∧ finF (a * 12 + b) ≤ finF (a * 12 + o) + finF (o * 12 + b)))))) = true := by decide +kernel
  have h := List.all_eq_true.1 (List.all_eq_true.1 (List.all_eq_true.1 this a (List.mem_range.2 ha)) b (List.mem_range.2 hb)) o (List.mem_range.2 ho)
  simp only [Bool.or_eq_true, beq_iff_eq, decide_eq_true_eq] at h
  rcases h with h | h | h
  · exact absurd h h1
  · exact absurd h h2
  · exact h
theorem zero259 : (∀ w, (zeroValue 259).run Tryz.prog w = .ok (.agg (matC (iniF 0))) w) ∧ (Tryz.prog.info? 259).map (·.size) = some 144 := zero_of_info (by kernel_rfl)
theorem und259 : Tryz.prog.underlying 259 = some (.array 12 258) := by kernel_rfl
theorem row_hi (f : Nat → Int) : (Tryz.prog.info? 259).map (·.size) = some (matC f).size := by rw [matC_size]; exact zero259.2
theorem relax_lay (f : Nat → Int) (a b mb : Nat) (v : Int) (w : World) (h : Blk w mb 259 (matC f)) (ha : a < 12) (hb : b < 12) (h1 : f (a * 12 + b) = -1) :
    Calls Tryz.prog 215 #[.int .i64 (a : Int), .int .i64 (b : Int), .int .i64 v, .pointer (some ⟨mb, 0, none⟩)] w fun e w' => e = .returned (.tuple #[]) ∧ Below mb w w' ∧ Blk w' mb 259 (matC (fun i => if i = a * 12 + b then v else f i)) := by
  refine (relax_set f a b mb v w h ha hb h1).mono ?_
  rintro e w' ⟨rfl, rfl⟩
  refine ⟨rfl, (Below.refl mb w).setCell (p := ⟨mb, a * 12 + b, none⟩) (Nat.le_refl mb) _, ?_⟩
  have := h.set_ (a * 12 + b) (.int .i64 v)
  rw [matC_set] at this
  exact this
theorem relax01 (M : Nat) (W : World) (h : Blk W M 259 (matC (iniF 144))) : Calls Tryz.prog 215 #[.int .i64 0, .int .i64 1, .int .i64 120, .pointer (some ⟨M, 0, none⟩)] W fun e w' => e = .returned (.tuple #[]) ∧ Below M W w' ∧ Blk w' M 259 (matC (fun i => if i = 1 then (120 : Int) else iniF 144 i)) := relax_lay (iniF 144) 0 1 M 120 W h (by decide) (by decide) (by decide)
theorem relax10 (M : Nat) (W : World) (h : Blk W M 259 (matC (fun i => if i = 1 then (120 : Int) else iniF 144 i))) : Calls Tryz.prog 215 #[.int .i64 1, .int .i64 0, .int .i64 60, .pointer (some ⟨M, 0, none⟩)] W fun e w' => e = .returned (.tuple #[]) ∧ Below M W w' ∧ Blk w' M 259 (matC finF) := by
  refine (relax_lay (fun i => if i = 1 then (120 : Int) else iniF 144 i) 1 0 M 60 W h (by decide) (by decide) (by decide)).mono ?_
  rintro e w' ⟨rfl, h1, h2⟩
  refine ⟨rfl, h1, ?_⟩
  rw [← finF_ini]
  exact h2
theorem line_one {V : World} {bl : Nat} (h : Blk V bl 160 #[.string ⟨#[108]⟩, .int .i64 0, .int .i64 1, .int .i64 480, .int .i64 120, .int .i64 1, .string ⟨#[109]⟩, .int .i64 1, .int .i64 0, .int .i64 600, .int .i64 60, .int .i64 1]) : V.cell? ⟨bl, 0, none⟩ = some (.string ⟨#[108]⟩) ∧ V.cell? ⟨bl, 1, none⟩ = some (.int .i64 0) ∧ V.cell? ⟨bl, 2, none⟩ = some (.int .i64 1) ∧ V.cell? ⟨bl, 3, none⟩ = some (.int .i64 480) ∧ V.cell? ⟨bl, 4, none⟩ = some (.int .i64 120) ∧ V.cell? ⟨bl, 5, none⟩ = some (.int .i64 1) := ⟨h.cell 0, h.cell 1, h.cell 2, h.cell 3, h.cell 4, h.cell 5⟩
theorem line_two {V : World} {bl : Nat} (h : Blk V bl 160 #[.string ⟨#[108]⟩, .int .i64 0, .int .i64 1, .int .i64 480, .int .i64 120, .int .i64 1, .string ⟨#[109]⟩, .int .i64 1, .int .i64 0, .int .i64 600, .int .i64 60, .int .i64 1]) : V.cell? ⟨bl, 6, none⟩ = some (.string ⟨#[109]⟩) ∧ V.cell? ⟨bl, 7, none⟩ = some (.int .i64 1) ∧ V.cell? ⟨bl, 8, none⟩ = some (.int .i64 0) ∧ V.cell? ⟨bl, 9, none⟩ = some (.int .i64 600) ∧ V.cell? ⟨bl, 10, none⟩ = some (.int .i64 60) ∧ V.cell? ⟨bl, 11, none⟩ = some (.int .i64 1) := ⟨h.cell 6, h.cell 7, h.cell 8, h.cell 9, h.cell 10, h.cell 11⟩
section
attribute [local go_sem] Oper.semAt_some
set_option maxRecDepth 100000 in
set_option maxHeartbeats 16000000 in
theorem relaxed165 (bw bc bn bo bf bl bk : Nat) (w : World) (h : Net w bw bc bn bo bf bl bk) : Calls Tryz.prog 165 #[.agg (netC bc bn bo bf bl bk)] w fun e w' => e = .returned (.agg (matC finF)) ∧ Keeps w w' := by
  have hli := h.li
  have HLI := Lib.hid hli
  clear h
  have z259 := zero259.1
  obtain ⟨Z, hZ⟩ : ∃ Z, matC (iniF 0) = Z := ⟨_, rfl⟩
  have HZ := Lib.hid hZ
  rw [hZ] at z259
  have hb1 := ((Blk.new w 87 (netC bc bn bo bf bl bk)).alloc (.cells Z 259))
  have hb2 := Blk.new (w.alloc (.cells (netC bc bn bo bf bl bk) 87)) 259 Z
  rw [World.size_alloc] at hb2
  have k2 := ((Keeps.refl w).alloc (.cells (netC bc bn bo bf bl bk) 87)).alloc (.cells Z 259)
  have hs2 : w.heap.size + 1 + 1 = ((w.alloc (.cells (netC bc bn bo bf bl bk) 87)).alloc (.cells Z 259)).heap.size := by simp
  have HB1 := Lib.hid hb1; have HB2 := Lib.hid hb2; have K2 := Lib.hid k2; have HS2 := Lib.hid hs2
  clear hli hZ hb1 hb2 k2 hs2
  go_enter Tryz.func165, Tryz.ntmps165
  go_upto_region 2 with fail
  clear z259
  rw [HS2.out]
  generalize (w.alloc (.cells (netC bc bn bo bf bl bk) 87)).alloc (.cells Z 259) = X at *
  have HLX := Lib.hid (HLI.out.below K2.out HLI.out.lt)
  have HRN := Lib.hid (show w.heap.size + 1 < X.heap.size from HB2.out.lt)
  have HRW := Lib.hid (show w.heap.size ≤ w.heap.size + 1 by omega)
  generalize w.heap.size + 1 = RB at *
  generalize hNB : w.heap.size = NB at *
  have HNB := Lib.hid hNB
  clear hNB
  obtain rfl := HZ.out
  clear HZ HS2 HLI
  go_upto_region 3 with fail
  go_loopw [12] (fun i wx => ∃ a : Nat, a ≤ 12 ∧ i = .int .i64 (a : Int) ∧ wx = X.alloc (.cells (matC (iniF (12 * a))) 259)) (fun i _ => 12 - (intOf i).toNat)
  case atStart => exact ⟨0, by omega, rfl, by rw [Nat.mul_zero]⟩
  case round =>
    obtain ⟨a, ha, rfl, rfl⟩ := hrel
    by_cases ha2 : a < 12
    · have a0 : (0 : Int) ≤ (a : Int) := by omega
      have a1 : (a : Int) < 12 := by omega
      have aw : IntKind.i64.wrap ((a : Int) + 1) = (a : Int) + 1 := wrap_in (by omega) (by omega)
      go_upto_region 6 with fail
      go_loopw [15] (fun i wx => ∃ b : Nat, b ≤ 12 ∧ i = .int .i64 (b : Int) ∧ wx = X.alloc (.cells (matC (iniF (12 * a + b))) 259)) (fun i _ => 12 - (intOf i).toNat)
      case atStart => exact ⟨0, by omega, rfl, by rw [Nat.add_zero]⟩
      case round =>
        obtain ⟨b, hb, rfl, rfl⟩ := hrel
        by_cases hb2 : b < 12
        · have b0 : (0 : Int) ≤ (b : Int) := by omega
          have b1 : (b : Int) < 12 := by omega
          have bw' : IntKind.i64.wrap ((b : Int) + 1) = (b : Int) + 1 := wrap_in (by omega) (by omega)
          by_cases hab : a = b
          · subst hab
            go_wp2_with fail
            go_roundw
            case rel => exact ⟨a + 1, by omega, by go_num, by rw [iniF_eq ha2]⟩
            case measure => simp [intOf]; omega
          · have dab : decide ((a : Int) = (b : Int)) = false := by simp; omega
            have dab' : ((a : Int) == (b : Int)) = false := by simp; omega
            have dne : ((a : Int) != (b : Int)) = true := by simp; omega
            have hset := matC_set (iniF (12 * a + b)) (a * 12 + b) (-1)
            rw [iniF_ne ha2 hb2 hab] at hset
            have hat := matC_at (iniF (12 * a + b)) (show a * 12 + b < 144 by omega)
            have hsz := matC_size (iniF (12 * a + b))
            go_wp2_with fail
            go_roundw
            case rel => exact ⟨b + 1, by omega, by go_num, rfl⟩
            case measure => simp [intOf]; omega
        · have hb12 : b = 12 := by omega
          subst hb12
          go_wp2_with fail
          go_roundw
          case rel => exact ⟨a + 1, by omega, by go_num, rfl⟩
          case measure => simp [intOf]; omega
    · have ha12 : a = 12 := by omega
      subst ha12
      clear ha ha2
      go_upto_region 13 with fail
      have hy1 := (Below.refl X.heap.size X).alloc (Nat.le_refl _) (.cells (matC (iniF 144)) 259)
      have hy2 := Blk.new X 259 (matC (iniF 144))
      have hy3 : X.heap.size < (X.alloc (.cells (matC (iniF 144)) 259)).heap.size := by simp
      have HY1 := Lib.hid hy1; have HY2 := Lib.hid hy2; have HY3 := Lib.hid hy3
      clear hy1 hy2 hy3
      generalize X.alloc (.cells (matC (iniF 144)) 259) = Y at *
      have HLY := Lib.hid (HLX.out.below HY1.out HLX.out.lt)
      have HNY := Lib.hid (HB1.out.below HY1.out HB1.out.lt)
      have HRY := Lib.hid (HB2.out.below HY1.out HB2.out.lt)
      have HLL := Lib.hid HLX.out.lt
      have HNL := Lib.hid HB1.out.lt
      have HKX := Lib.hid (K2.out.size)
      generalize X.heap.size = M at *
      have n4 := HNY.out.cell 4
      obtain ⟨l0, l1, l2, l3, l4, l5⟩ := line_one HLY.out
      simp only [netC] at n4
      have LB := Lib.hid (show ∀ V : World, Below M Y V → Blk V bl 160 #[.string ⟨#[108]⟩, .int .i64 0, .int .i64 1, .int .i64 480, .int .i64 120, .int .i64 1, .string ⟨#[109]⟩, .int .i64 1, .int .i64 0, .int .i64 600, .int .i64 60, .int .i64 1] from fun V hV => HLY.out.below hV HLL.out)
      have RX := Lib.hid (fun (W : World) => relax01 M W)
      have RY := Lib.hid (fun (W : World) => relax10 M W)
      go_upto_region 14 with fail
      refine wp_loop_rounds 3 ?_
      rw [rounds_succ]
      go_wp2_with (go_at_call 215; (with_reducible refine (RX.out _ (HY2.out.alloc _)).mono ?_); rintro e w1 ⟨rfl, hb1, hm1⟩; have HD1 := Lib.hid (((Below.refl M Y).alloc (Nat.le_of_lt HY3.out) _).trans hb1); have HM1 := Lib.hid hm1; have HS1 := Lib.hid (Nat.lt_of_lt_of_le HY3.out HD1.out.size); clear hb1 hm1)
      clear l0 l1 l2 l3 l4 l5 n4
      obtain ⟨l6, l7, l8, l9, l10, l11⟩ := line_two (LB.out _ HD1.out)
      rw [rounds_succ]
      go_wp2_with (go_at_call 215; (with_reducible refine (RY.out _ (HM1.out.alloc _)).mono ?_); rintro e w2 ⟨rfl, hb2, hm2⟩; have HD2 := Lib.hid (HD1.out.trans (((Below.refl M _).alloc (Nat.le_of_lt HS1.out) _).trans hb2)); have HM2 := Lib.hid hm2; clear hb2 hm2 HS1)
      clear l6 l7 l8 l9 l10 l11 LB RX RY HM1 HD1
      rw [rounds_succ]
      go_upto_region 19 with fail
      go_loopw [44] (fun i wx => ∃ o n : Nat, o ≤ 12 ∧ i = .int .i64 (o : Int) ∧ wx = w2.drewN n) (fun i _ => 12 - (intOf i).toNat)
      case atStart => exact ⟨0, 0, by omega, rfl, rfl⟩
      case round =>
        obtain ⟨o, n, ho, rfl, rfl⟩ := hrel
        by_cases ho2 : o < 12
        · have o0 : (0 : Int) ≤ (o : Int) := by omega
          have o1 : (o : Int) < 12 := by omega
          have ow : IntKind.i64.wrap ((o : Int) + 1) = (o : Int) + 1 := wrap_in (by omega) (by omega)
          go_upto_region 22 with fail
          go_loopw [47] (fun i wx => ∃ a n : Nat, a ≤ 12 ∧ i = .int .i64 (a : Int) ∧ wx = w2.drewN n) (fun i _ => 12 - (intOf i).toNat)
          case atStart => exact ⟨0, n, by omega, rfl, rfl⟩
          case round =>
            clear n
            obtain ⟨a, n, ha, rfl, rfl⟩ := hrel
            by_cases ha2 : a < 12
            · have a0 : (0 : Int) ≤ (a : Int) := by omega
              have a1 : (a : Int) < 12 := by omega
              have aw : IntKind.i64.wrap ((a : Int) + 1) = (a : Int) + 1 := wrap_in (by omega) (by omega)
              go_upto_region 25 with fail
              go_loopw [50] (fun i wx => ∃ b n : Nat, b ≤ 12 ∧ i = .int .i64 (b : Int) ∧ wx = w2.drewN n) (fun i _ => 12 - (intOf i).toNat)
              case atStart => exact ⟨0, n, by omega, rfl, rfl⟩
              case round =>
                clear n
                obtain ⟨b, n, hb, rfl, rfl⟩ := hrel
                by_cases hb2 : b < 12
                · have b0 : (0 : Int) ≤ (b : Int) := by omega
                  have b1 : (b : Int) < 12 := by omega
                  have bw' : IntKind.i64.wrap ((b : Int) + 1) = (b : Int) + 1 := wrap_in (by omega) (by omega)
                  have hXB := HM2.out.drewN n
                  obtain ⟨V, hV⟩ : ∃ V, w2.drewN n = V := ⟨_, rfl⟩
                  have HV := Lib.hid hV
                  rw [hV] at hXB
                  rw [hV]
                  have q1 := mat_cell hXB (show a * 12 + o < 144 by omega)
                  have q2 := mat_cell hXB (show o * 12 + b < 144 by omega)
                  have t1 := @fin_tri a b o ha2 hb2 ho2
                  have d1 := fin_bd (show a * 12 + o < 144 by omega)
                  have d2 := fin_bd (show o * 12 + b < 144 by omega)
                  have RK := Lib.hid (fun (v : Int) (h1 : finF (a * 12 + b) ≠ -1) (h2 : finF (a * 12 + b) ≤ v) (m : Nat) => relax_keep finF a b M v (V.drewN m) (hXB.drewN m) ha2 hb2 h1 h2)
                  clear hV hXB
                  generalize finF (a * 12 + o) = x1 at *
                  generalize finF (o * 12 + b) = x2 at *
                  by_cases hx1 : x1 = -1
                  · subst hx1
                    clear t1 d1 d2 RK
                    go_wp2_with fail
                    go_roundw
                    case rel => exact ⟨b + 1, n, by omega, by go_num, HV.out.symm⟩
                    case measure => simp [intOf]; omega
                  · by_cases hx2 : x2 = -1
                    · subst hx2
                      have e1 : decide (x1 = -1) = false := by simp [hx1]
                      have e1' : (x1 == -1) = false := by simp [hx1]
                      have e3 : (x1 != -1) = true := by simp [hx1]
                      clear t1 d1 d2 RK
                      go_wp2_with fail
                      go_roundw
                      case rel => exact ⟨b + 1, n, by omega, by go_num, HV.out.symm⟩
                      case measure => simp [intOf]; omega
                    · have e1 : decide (x1 = -1) = false := by simp [hx1]
                      have e1' : (x1 == -1) = false := by simp [hx1]
                      have e2 : decide (x2 = -1) = false := by simp [hx2]
                      have e2' : (x2 == -1) = false := by simp [hx2]
                      have e3 : (x1 != -1) = true := by simp [hx1]
                      have e4 : (x2 != -1) = true := by simp [hx2]
                      obtain ⟨t2, t3⟩ := t1 hx1 hx2
                      have RK2 := Lib.hid (RK.out (IntKind.i64.wrap (x1 + x2)) t2 (by rw [wrap_in (by omega) (by omega)]; exact t3))
                      have RK3 := Lib.hid (RK.out (wrap64 (x1 + x2)) t2 (by unfold wrap64; omega))
                      clear t1 d1 d2 t2 t3 RK
                      go_upto_region 28 with fail
                      go_quiet ((go_at_call 215; first | with_reducible exact Calls.quiet_of_same (RK2.out _) | with_reducible exact Calls.quiet_of_same (RK3.out _)))
                      go_wp2_with fail
                      go_roundw
                      case rel => exact ⟨b + 1, _, by omega, by go_num, by rw [← HV.out]; exact World.drewN_drewN _ _ _⟩
                      case measure => simp [intOf]; omega
                · have hb12 : b = 12 := by omega
                  subst hb12
                  go_wp2_with fail
                  go_roundw
                  case rel => exact ⟨a + 1, n, by omega, by go_num, rfl⟩
                  case measure => simp [intOf]; omega
            · have ha12 : a = 12 := by omega
              subst ha12
              go_wp2_with fail
              go_roundw
              case rel => exact ⟨o + 1, n, by omega, by go_num, rfl⟩
              case measure => simp [intOf]; omega
        · have ho12 : o = 12 := by omega
          subst ho12
          clear ho ho2
          have hXB := HM2.out.drewN n
          have hRB := (HRY.out.below HD2.out HRN.out).drewN n
          have hK : Keeps w (w2.drewN n) := Below.trans K2.out ((HY1.out.mono HKX.out).trans ((HD2.out.mono HKX.out).trans (show Below w.heap.size w2 (w2.drewN n) from ⟨rfl, rfl, rfl, Nat.le_refl _, fun _ _ => rfl⟩)))
          generalize w2.drewN n = V at *
          have HXB := Lib.hid hXB; have HRB := Lib.hid hRB; have HK := Lib.hid hK
          clear hXB hRB hK HD2 HM2
          clear HB1 HB2 HLX HLY HNY HRY HY1 HY2 HY3 HLL HNL HKX K2
          have hi := row_hi finF
          have hi0 : (matC (iniF 0)).size = (matC finF).size := by rw [matC_size, matC_size]
          have ho1 := matC_one finF
          have HKB := Lib.hid (show w.heap.size ≤ RB by have := HRW.out; have := HNB.out; omega)
          generalize hR : matC finF = R at *
          generalize matC (iniF 0) = R0 at *
          have HRE := Lib.hid hR
          clear hR
          go_wp2_with (first | (refine wpList_load_row rfl 259 (.tmp 3) rfl M rfl 259 R (0, 0) _ HXB.out und259 rfl hi ?_) | (refine wpList_store_row rfl 259 (.tmp 2) (.tmp 85) rfl RB R rfl rfl 259 R0 HRB.out hi hi0 ho1 ?_))
          have HR2 := Lib.hid (show Blk (V.setRow RB R) RB 259 R from by
            have h0 := HRB.out
            show (V.heap.modify RB _)[RB]? = _
            rw [Array.getElem?_modify, if_pos rfl, h0]
            rfl)
          refine bodyPost_ret (v := .agg R) (results_cell_row (p := 2) (ty := 259) rfl _ _ RB 259 R (0, 0) _ rfl HR2.out und259 rfl hi) rfl ?_
          refine ⟨by rw [HRE.out], Below.trans HK.out ⟨rfl, rfl, rfl, by simp [World.setRow], fun k hk => ?_⟩⟩
          show (V.heap.modify RB _)[k]? = _
          rw [Array.getElem?_modify, if_neg (by have := HKB.out; omega)]
end
end
section
open Go.Shelf Go.ChangeShapes Go.WideShapes Go.ChangeAt Go.RowKit
set_option linter.unusedSimpArgs false
set_option linter.unusedVariables false
set_option maxRecDepth 100000 in
set_option maxHeartbeats 8000000 in
theorem incons164 (bw bc bn bo bf bl bk : Nat) (w : World) (h : Net w bw bc bn bo bf bl bk) (hk : Kw w) : Calls Tryz.prog 164 #[.agg (netC bc bn bo bf bl bk)] w fun e w' => e = .returned (.slice none 0 0) ∧ Keeps w w' := by
  have k1 := (Keeps.refl w).alloc (.cells (netC bc bn bo bf bl bk) 87)
  have hb := Blk.new w 87 (netC bc bn bo bf bl bk)
  have HK := Lib.hid k1
  have HB := Lib.hid (fun X (hX : Keeps (w.alloc (.cells (netC bc bn bo bf bl bk) 87)) X) => (⟨(hb.below hX hb.lt).cell 0, (hb.below hX hb.lt).cell 1, (hb.below hX hb.lt).cell 2, (hb.below hX hb.lt).cell 3, (hb.below hX hb.lt).cell 4, (hb.below hX hb.lt).cell 5⟩ : X.cell? ⟨w.heap.size, 0, none⟩ = some (.slice (some ⟨bc, 0, none⟩) 1 1) ∧ X.cell? ⟨w.heap.size, 1, none⟩ = some (.slice (some ⟨bn, 0, none⟩) 1 1) ∧ X.cell? ⟨w.heap.size, 2, none⟩ = some (.slice (some ⟨bo, 0, none⟩) 2 2) ∧ X.cell? ⟨w.heap.size, 3, none⟩ = some (.slice (some ⟨bf, 0, none⟩) 2 2) ∧ X.cell? ⟨w.heap.size, 4, none⟩ = some (.slice (some ⟨bl, 0, none⟩) 2 2) ∧ X.cell? ⟨w.heap.size, 5, none⟩ = some (.slice (some ⟨bk, 0, none⟩) 1 1)))
  have C1 := Lib.hid (fun X (hX : Keeps (w.alloc (.cells (netC bc bn bo bf bl bk) 87)) X) => check198 w.heap.size bw bc bn bo bf bl bk X (hb.below hX hb.lt) (h.keep (k1.trans hX)) (hk.keep (k1.trans hX)))
  have C2 := Lib.hid (fun X (hX : Keeps (w.alloc (.cells (netC bc bn bo bf bl bk) 87)) X) => check201 w.heap.size bw bc bn bo bf bl bk X (hb.below hX hb.lt) (h.keep (k1.trans hX)) (hk.keep (k1.trans hX)))
  have C3 := Lib.hid (fun X (hX : Keeps (w.alloc (.cells (netC bc bn bo bf bl bk) 87)) X) => check204 w.heap.size bw bc bn bo bf bl bk X (hb.below hX hb.lt) (h.keep (k1.trans hX)) (hk.keep (k1.trans hX)))
  have C4 := Lib.hid (fun X (hX : Keeps (w.alloc (.cells (netC bc bn bo bf bl bk) 87)) X) => check208 w.heap.size bw bc bn bo bf bl bk X (hb.below hX hb.lt) (h.keep (k1.trans hX)) (hk.keep (k1.trans hX)))
  have C5 := Lib.hid (fun X (hX : Keeps (w.alloc (.cells (netC bc bn bo bf bl bk) 87)) X) => check212 w.heap.size bw bc bn bo bf bl bk X (hb.below hX hb.lt) (h.keep (k1.trans hX)) (hk.keep (k1.trans hX)))
  have KK := Lib.hid (Keeps.refl (w.alloc (.cells (netC bc bn bo bf bl bk) 87)))
  clear h hk hb k1
  go_enter Tryz.func164, Tryz.ntmps164
  go_upto_region 1 with fail
  generalize w.alloc (.cells (netC bc bn bo bf bl bk) 87) = W1 at *
  obtain ⟨c0, c1, c2, c3, c4, c5⟩ := HB.out _ KK.out
  go_upto_region 6 with (go_at_call 198; (with_reducible refine (C1.out _ KK.out).mono ?_); rintro e wz ⟨rfl, hkk⟩; have KK2 := Lib.hid (KK.out.trans hkk); clear KK hkk C1; have KK := Lib.hid KK2.out; clear KK2)
  clear c0 c1 c2 c3 c4 c5
  obtain ⟨c0, c1, c2, c3, c4, c5⟩ := HB.out _ KK.out
  go_upto_region 8 with (go_at_call 201; (with_reducible refine (C2.out _ KK.out).mono ?_); rintro e wz ⟨rfl, hkk⟩; have KK2 := Lib.hid (KK.out.trans hkk); clear KK hkk C2; have KK := Lib.hid KK2.out; clear KK2)
  clear c0 c1 c2 c3 c4 c5
  obtain ⟨c0, c1, c2, c3, c4, c5⟩ := HB.out _ KK.out
  go_upto_region 10 with (go_at_call 204; (with_reducible refine (C3.out _ KK.out).mono ?_); rintro e wz ⟨rfl, hkk⟩; have KK2 := Lib.hid (KK.out.trans hkk); clear KK hkk C3; have KK := Lib.hid KK2.out; clear KK2)
  clear c0 c1 c2 c3 c4 c5
  obtain ⟨c0, c1, c2, c3, c4, c5⟩ := HB.out _ KK.out
  go_upto_region 12 with (go_at_call 208; (with_reducible refine (C4.out _ KK.out).mono ?_); rintro e wz ⟨rfl, hkk⟩; have KK2 := Lib.hid (KK.out.trans hkk); clear KK hkk C4; have KK := Lib.hid KK2.out; clear KK2)
  clear c0 c1 c2 c3 c4 c5
  obtain ⟨c0, c1, c2, c3, c4, c5⟩ := HB.out _ KK.out
  go_wp2_with (go_at_call 212; (with_reducible refine (C5.out _ KK.out).mono ?_); rintro e wz ⟨rfl, hkk⟩; have KK2 := Lib.hid (KK.out.trans hkk); clear KK hkk C5; have KK := Lib.hid KK2.out; clear KK2)
  go_ret
  exact ⟨rfl, HK.out.trans KK.out⟩
section
attribute [local go_sem] Oper.semAt_some
set_option maxRecDepth 100000 in
set_option maxHeartbeats 8000000 in
theorem check120 (bw bc bn bo bf bl bk : Nat) (w : World) (h : Net w bw bc bn bo bf bl bk) (hk : Kw w) : Calls Tryz.prog 120 #[.agg (netC bc bn bo bf bl bk)] w fun e w' => e = .returned (.slice none 0 0) ∧ Keeps w w' := by
  have k1 := (Keeps.refl w).alloc (.cells (netC bc bn bo bf bl bk) 87)
  have hb := Blk.new w 87 (netC bc bn bo bf bl bk)
  have HK := Lib.hid k1
  have HB := Lib.hid (fun X (hX : Keeps (w.alloc (.cells (netC bc bn bo bf bl bk) 87)) X) => (⟨(hb.below hX hb.lt).cell 0, (hb.below hX hb.lt).cell 1, (hb.below hX hb.lt).cell 2, (hb.below hX hb.lt).cell 3, (hb.below hX hb.lt).cell 4, (hb.below hX hb.lt).cell 5⟩ : X.cell? ⟨w.heap.size, 0, none⟩ = some (.slice (some ⟨bc, 0, none⟩) 1 1) ∧ X.cell? ⟨w.heap.size, 1, none⟩ = some (.slice (some ⟨bn, 0, none⟩) 1 1) ∧ X.cell? ⟨w.heap.size, 2, none⟩ = some (.slice (some ⟨bo, 0, none⟩) 2 2) ∧ X.cell? ⟨w.heap.size, 3, none⟩ = some (.slice (some ⟨bf, 0, none⟩) 2 2) ∧ X.cell? ⟨w.heap.size, 4, none⟩ = some (.slice (some ⟨bl, 0, none⟩) 2 2) ∧ X.cell? ⟨w.heap.size, 5, none⟩ = some (.slice (some ⟨bk, 0, none⟩) 1 1)))
  have C1 := Lib.hid (fun X (hX : Keeps (w.alloc (.cells (netC bc bn bo bf bl bk) 87)) X) => incons164 bw bc bn bo bf bl bk X (h.keep (k1.trans hX)) (hk.keep (k1.trans hX)))
  have C2 := Lib.hid (fun X (hX : Keeps (w.alloc (.cells (netC bc bn bo bf bl bk) 87)) X) => relaxed165 bw bc bn bo bf bl bk X (h.keep (k1.trans hX)))
  have KK := Lib.hid (Keeps.refl (w.alloc (.cells (netC bc bn bo bf bl bk) 87)))
  have hi := row_hi finF
  have hi0 : (matC (iniF 0)).size = (matC finF).size := by rw [matC_size, matC_size]
  have ho1 := matC_one finF
  have MQ := Lib.hid (show ∀ (V : World) (g : Nat), Blk V g 259 (matC finF) → V.cell? ⟨g, 0, none⟩ = some (.int .i64 0) ∧ V.cell? ⟨g, 1, none⟩ = some (.int .i64 120) ∧ V.cell? ⟨g, 12, none⟩ = some (.int .i64 60) ∧ V.cell? ⟨g, 13, none⟩ = some (.int .i64 0) from fun V g hV => ⟨mat_cell hV (k := 0) (by decide), mat_cell hV (k := 1) (by decide), mat_cell hV (k := 12) (by decide), mat_cell hV (k := 13) (by decide)⟩)
  have z259 := zero259.1
  generalize matC finF = R at *
  generalize matC (iniF 0) = Z at *
  clear h hk hb k1
  go_enter Tryz.func120, Tryz.ntmps120
  go_upto_region 1 with fail
  generalize w.alloc (.cells (netC bc bn bo bf bl bk) 87) = W1 at *
  obtain ⟨c0, c1, c2, c3, c4, c5⟩ := HB.out _ KK.out
  go_upto_region 4 with (go_at_call 164; (with_reducible refine (C1.out _ KK.out).mono ?_); rintro e wz ⟨rfl, hkk⟩; have KK2 := Lib.hid (KK.out.trans hkk); clear KK hkk C1; have KK := Lib.hid KK2.out; clear KK2)
  clear c0 c1 c2 c3 c4 c5
  obtain ⟨c0, c1, c2, c3, c4, c5⟩ := HB.out _ KK.out
  go_upto_region 5 with (first | (go_at_call 165; (with_reducible refine (C2.out _ KK.out).mono ?_); rintro e wy ⟨rfl, hkk⟩; have KK2 := Lib.hid (KK.out.trans hkk); clear KK hkk C2; have KK := Lib.hid KK2.out; clear KK2) | (refine wpList_store_row rfl 259 (.tmp 4) (.tmp 14) rfl wy.heap.size R rfl rfl 259 Z (Blk.new wy 259 Z) hi hi0 ho1 ?_; rw [World.setRow_alloc_new]))
  have KK3 := Lib.hid (KK.out.alloc (.cells R 259))
  have hm := MQ.out _ _ (Blk.new wy 259 R)
  clear c0 c1 c2 c3 c4 c5 KK z259 hi hi0 ho1
  obtain ⟨c0, c1, c2, c3, c4, c5⟩ := HB.out _ KK3.out
  obtain ⟨q0, q1, q2, q3⟩ := hm
  generalize wy.alloc (.cells R 259) = V at *
  generalize wy.heap.size = g at *
  go_upto_region 6 with fail
  refine wp_loop_rounds 3 ?_
  rw [rounds_succ]
  go_wp2_with fail
  refine wp_loop_rounds 3 ?_
  rw [rounds_succ]
  go_wp2_with fail
  rw [rounds_succ]
  go_wp2_with fail
  rw [rounds_succ]
  go_wp2_with fail
  rw [rounds_succ]
  go_wp2_with fail
  refine wp_loop_rounds 3 ?_
  rw [rounds_succ]
  go_wp2_with fail
  rw [rounds_succ]
  go_wp2_with fail
  rw [rounds_succ]
  go_wp2_with fail
  rw [rounds_succ]
  go_wp2_with fail
  go_ret
  exact ⟨rfl, HK.out.trans KK3.out⟩
set_option maxHeartbeats 4000000 in
theorem sound74 (bw bc bn bo bf bl bk : Nat) (w : World) (h : Net w bw bc bn bo bf bl bk) (hk : Kw w) : Calls Tryz.prog 74 #[.agg (netC bc bn bo bf bl bk)] w fun e w' => e = .returned (.bool true) ∧ Keeps w w' := by
  have k1 := (Keeps.refl w).alloc (.cells (netC bc bn bo bf bl bk) 87)
  have hb := Blk.new w 87 (netC bc bn bo bf bl bk)
  have HK := Lib.hid k1
  have c0 := hb.cell 0; have c1 := hb.cell 1; have c2 := hb.cell 2; have c3 := hb.cell 3; have c4 := hb.cell 4; have c5 := hb.cell 5
  have C1 := Lib.hid (check120 bw bc bn bo bf bl bk _ (h.keep k1) (hk.keep k1))
  clear h hk hb k1
  go_enter Tryz.func74, Tryz.ntmps74
  go_wp2_with (go_at_call 120; (with_reducible refine C1.out.mono ?_); rintro e wz ⟨rfl, hkk⟩; have KK := Lib.hid hkk; clear hkk)
  go_ret
  exact ⟨rfl, HK.out.trans KK.out⟩
end
end
end Go.Proofs.YthkmpegpmpdhaaaGreatDoor
