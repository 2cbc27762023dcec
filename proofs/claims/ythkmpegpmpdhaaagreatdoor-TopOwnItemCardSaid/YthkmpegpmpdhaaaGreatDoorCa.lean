/- Part of the proof of TopOwnItem. Conditions: as stated in each theorem. -/
import Derived.Test.YthkmpegpmpdhaaaGreatDoorEa
import Derived.WalkMore
import Derived.Maps.OwnIn
import Derived.Deep.LoopGhost
import Derived.RangeFuncNested
import Derived.RangeFuncCalls
import Derived.RangeFuncLeaves
import Derived.RangeFuncWrites
import Derived.Shelf.Abstract
import Derived.Shelf.RegionOpen
import Derived.OwnWalkIn
import Derived.TacticsInMore
import Derived.LoopNIn
import Derived.LoopIn
import Derived.RangeFuncBound
import Derived.Test.YthkmpegpmpdhaaaGreatDoorProg
import Derived.WalkKit
import Derived.WalkSpells
import Derived.WalkLawsBesides
import Derived.Laws.EntriesVeiled
import Derived.ProofKit
import Derived.OpenShut
import Derived.Lib.Hide
import Derived.BigQuiet
import Derived.Deep.QuietTactic
import Derived.Deep.CutRange
import Derived.StillTailTactics
import Derived.Lib.SliceRun
import Derived.RangeFuncRecord
import Derived.Carry
import Derived.ChangeKeysEq
import Derived.Below
import Derived.Laws.OwnMore
import Derived.Deep.AppendLies
import Derived.Deep.Draws
import Derived.Laws.Rows
import Derived.Maps.AppendAt
import Derived.RegionTactic
import Derived.OwnWalk
import Derived.Deep.RegionHeld3
namespace Go.Proofs.YthkmpegpmpdhaaaGreatDoor
open Go.Shelf Go.ChangeShapes Go.WideShapes Go.ChangeAt Go.RowKit
set_option linter.unusedSimpArgs false
set_option linter.unusedVariables false
def siV (x : Si) : Value := .agg #[.int .i64 x.off, .int .i64 x.lo, .int .i64 x.hi]
theorem num69 (x : Si) (w : World) : Calls Tryz.prog 69 #[siV x] w fun e w' => e = .returned (.int .i64 x.off) ∧ Grows w w' := by
  obtain ⟨o, l, h⟩ := x
  unfold siV
  have G := Lib.hid ((Grows.refl w).alloc (.cells #[.int .i64 o, .int .i64 l, .int .i64 h] 45))
  go_enter Tryz.func69, Tryz.ntmps69
  go_wp2
  go_ret
  exact ⟨rfl, G.out⟩
set_option maxHeartbeats 1000000 in
set_option maxRecDepth 100000 in
theorem by115_69 (x y : Si) (p : Nat) (w : World) (hp : w.cell? ⟨p, 0, none⟩ = some (.func (.func 69) #[] #[])) :
    Calls Tryz.prog 115 #[siV x, siV y, .pointer (some ⟨p, 0, none⟩)] w fun e w' => e = .returned (.int .i64 (cmpI x.off y.off)) ∧ Grows w w' := by
  have HK1 := Lib.hid (fun X => num69 x X)
  have HK2 := Lib.hid (fun X => num69 y X)
  have HCM := Lib.hid (fun X => cmp96 x.off y.off X)
  generalize cmpI x.off y.off = r at HCM ⊢
  generalize x.off = fx at HK1 HCM
  generalize y.off = fy at HK2 HCM
  obtain ⟨xo, xl, xh⟩ := x
  obtain ⟨yo, yl, yh⟩ := y
  unfold siV at HK1 HK2 ⊢
  simp only at HK1 HK2 ⊢
  have B1 := Lib.hid ((Blk.new w 45 #[.int .i64 xo, .int .i64 xl, .int .i64 xh]).alloc (.cells #[.int .i64 yo, .int .i64 yl, .int .i64 yh] 45))
  have B2 := Lib.hid (show Blk ((w.alloc (.cells #[.int .i64 xo, .int .i64 xl, .int .i64 xh] 45)).alloc (.cells #[.int .i64 yo, .int .i64 yl, .int .i64 yh] 45)) (w.heap.size + 1) 45 #[.int .i64 yo, .int .i64 yl, .int .i64 yh] by have := Blk.new (w.alloc (.cells #[.int .i64 xo, .int .i64 xl, .int .i64 xh] 45)) 45 #[.int .i64 yo, .int .i64 yl, .int .i64 yh]; rwa [World.size_alloc] at this)
  have G0 := Lib.hid (((Grows.refl w).alloc (.cells #[.int .i64 xo, .int .i64 xl, .int .i64 xh] 45)).alloc (.cells #[.int .i64 yo, .int .i64 yl, .int .i64 yh] 45))
  go_enter Tryz.func115, Tryz.ntmps115
  go_wp2_with fail
  have f0 := cell_keep hp G0.out.keeps
  generalize hw2 : (w.alloc (.cells #[.int .i64 xo, .int .i64 xl, .int .i64 xh] 45)).alloc (.cells #[.int .i64 yo, .int .i64 yl, .int .i64 yh] 45) = w2 at *
  clear hw2
  have x0 := cell_of_blk B1.out 0 (v := .int .i64 xo) rfl
  have x1 := cell_of_blk B1.out 1 (v := .int .i64 xl) rfl
  have x2 := cell_of_blk B1.out 2 (v := .int .i64 xh) rfl
  have y0 := cell_of_blk B2.out 0 (v := .int .i64 yo) rfl
  have y1 := cell_of_blk B2.out 1 (v := .int .i64 yl) rfl
  have y2 := cell_of_blk B2.out 2 (v := .int .i64 yh) rfl
  have SOF := Lib.hid (show ∀ X, Grows w2 X → (fun w' => w'.cell? ⟨p, 0, none⟩ = some (.func (.func 69) #[] #[]) ∧ w'.cell? ⟨w.heap.size, 0, none⟩ = some (.int .i64 xo) ∧ w'.cell? ⟨w.heap.size, 1, none⟩ = some (.int .i64 xl) ∧ w'.cell? ⟨w.heap.size, 2, none⟩ = some (.int .i64 xh) ∧ w'.cell? ⟨w.heap.size + 1, 0, none⟩ = some (.int .i64 yo) ∧ w'.cell? ⟨w.heap.size + 1, 1, none⟩ = some (.int .i64 yl) ∧ w'.cell? ⟨w.heap.size + 1, 2, none⟩ = some (.int .i64 yh) ∧ Grows w2 w') X from fun X hX => ⟨cell_keep f0 hX.keeps, cell_keep x0 hX.keeps, cell_keep x1 hX.keeps, cell_keep x2 hX.keeps, cell_keep y0 hX.keeps, cell_keep y1 hX.keeps, cell_keep y2 hX.keeps, hX⟩)
  clear hp f0 x0 x1 x2 y0 y1 y2
  go_region_held3 (fun w' => w'.cell? ⟨p, 0, none⟩ = some (.func (.func 69) #[] #[]) ∧ w'.cell? ⟨w.heap.size, 0, none⟩ = some (.int .i64 xo) ∧ w'.cell? ⟨w.heap.size, 1, none⟩ = some (.int .i64 xl) ∧ w'.cell? ⟨w.heap.size, 2, none⟩ = some (.int .i64 xh) ∧ w'.cell? ⟨w.heap.size + 1, 0, none⟩ = some (.int .i64 yo) ∧ w'.cell? ⟨w.heap.size + 1, 1, none⟩ = some (.int .i64 yl) ∧ w'.cell? ⟨w.heap.size + 1, 2, none⟩ = some (.int .i64 yh) ∧ Grows w2 w') ((refine SOF.out _ ?_; (first | exact Grows.refl _ | exact (Grows.refl _).drew | assumption))) ((first | (go_at_call 69; (with_reducible refine (HK1.out w2.drew).mono ?_); rintro e w4 ⟨rfl, hg4'⟩; have hg4 : Grows w2 w4 := ((Grows.refl w2).drew).trans hg4'; clear hg4') | (go_at_call 69; (with_reducible refine (HK2.out w4).mono ?_); rintro e w5 ⟨rfl, hg5'⟩; have hg5 : Grows w2 w5 := hg4.trans hg5'; clear hg5') | (go_at_call 96; (with_reducible refine (HCM.out _).mono ?_); rintro e w6 ⟨rfl, rfl⟩)))
  rename_i hH
  have GH := Lib.hid (G0.out.trans hH.2.2.2.2.2.2.2)
  clear hH
  go_wp2_with fail
  go_ret
  exact ⟨rfl, GH.out⟩
theorem num71 (x : Si) (w : World) : Calls Tryz.prog 71 #[siV x] w fun e w' => e = .returned (.int .i64 x.lo) ∧ Grows w w' := by
  obtain ⟨o, l, h⟩ := x
  unfold siV
  have G := Lib.hid ((Grows.refl w).alloc (.cells #[.int .i64 o, .int .i64 l, .int .i64 h] 45))
  go_enter Tryz.func71, Tryz.ntmps71
  go_wp2
  go_ret
  exact ⟨rfl, G.out⟩
set_option maxHeartbeats 1000000 in
set_option maxRecDepth 100000 in
theorem by115_71 (x y : Si) (p : Nat) (w : World) (hp : w.cell? ⟨p, 0, none⟩ = some (.func (.func 71) #[] #[])) :
    Calls Tryz.prog 115 #[siV x, siV y, .pointer (some ⟨p, 0, none⟩)] w fun e w' => e = .returned (.int .i64 (cmpI x.lo y.lo)) ∧ Grows w w' := by
  have HK1 := Lib.hid (fun X => num71 x X)
  have HK2 := Lib.hid (fun X => num71 y X)
  have HCM := Lib.hid (fun X => cmp96 x.lo y.lo X)
  generalize cmpI x.lo y.lo = r at HCM ⊢
  generalize x.lo = fx at HK1 HCM
  generalize y.lo = fy at HK2 HCM
  obtain ⟨xo, xl, xh⟩ := x
  obtain ⟨yo, yl, yh⟩ := y
  unfold siV at HK1 HK2 ⊢
  simp only at HK1 HK2 ⊢
  have B1 := Lib.hid ((Blk.new w 45 #[.int .i64 xo, .int .i64 xl, .int .i64 xh]).alloc (.cells #[.int .i64 yo, .int .i64 yl, .int .i64 yh] 45))
  have B2 := Lib.hid (show Blk ((w.alloc (.cells #[.int .i64 xo, .int .i64 xl, .int .i64 xh] 45)).alloc (.cells #[.int .i64 yo, .int .i64 yl, .int .i64 yh] 45)) (w.heap.size + 1) 45 #[.int .i64 yo, .int .i64 yl, .int .i64 yh] by have := Blk.new (w.alloc (.cells #[.int .i64 xo, .int .i64 xl, .int .i64 xh] 45)) 45 #[.int .i64 yo, .int .i64 yl, .int .i64 yh]; rwa [World.size_alloc] at this)
  have G0 := Lib.hid (((Grows.refl w).alloc (.cells #[.int .i64 xo, .int .i64 xl, .int .i64 xh] 45)).alloc (.cells #[.int .i64 yo, .int .i64 yl, .int .i64 yh] 45))
  go_enter Tryz.func115, Tryz.ntmps115
  go_wp2_with fail
  have f0 := cell_keep hp G0.out.keeps
  generalize hw2 : (w.alloc (.cells #[.int .i64 xo, .int .i64 xl, .int .i64 xh] 45)).alloc (.cells #[.int .i64 yo, .int .i64 yl, .int .i64 yh] 45) = w2 at *
  clear hw2
  have x0 := cell_of_blk B1.out 0 (v := .int .i64 xo) rfl
  have x1 := cell_of_blk B1.out 1 (v := .int .i64 xl) rfl
  have x2 := cell_of_blk B1.out 2 (v := .int .i64 xh) rfl
  have y0 := cell_of_blk B2.out 0 (v := .int .i64 yo) rfl
  have y1 := cell_of_blk B2.out 1 (v := .int .i64 yl) rfl
  have y2 := cell_of_blk B2.out 2 (v := .int .i64 yh) rfl
  have SOF := Lib.hid (show ∀ X, Grows w2 X → (fun w' => w'.cell? ⟨p, 0, none⟩ = some (.func (.func 71) #[] #[]) ∧ w'.cell? ⟨w.heap.size, 0, none⟩ = some (.int .i64 xo) ∧ w'.cell? ⟨w.heap.size, 1, none⟩ = some (.int .i64 xl) ∧ w'.cell? ⟨w.heap.size, 2, none⟩ = some (.int .i64 xh) ∧ w'.cell? ⟨w.heap.size + 1, 0, none⟩ = some (.int .i64 yo) ∧ w'.cell? ⟨w.heap.size + 1, 1, none⟩ = some (.int .i64 yl) ∧ w'.cell? ⟨w.heap.size + 1, 2, none⟩ = some (.int .i64 yh) ∧ Grows w2 w') X from fun X hX => ⟨cell_keep f0 hX.keeps, cell_keep x0 hX.keeps, cell_keep x1 hX.keeps, cell_keep x2 hX.keeps, cell_keep y0 hX.keeps, cell_keep y1 hX.keeps, cell_keep y2 hX.keeps, hX⟩)
  clear hp f0 x0 x1 x2 y0 y1 y2
  go_region_held3 (fun w' => w'.cell? ⟨p, 0, none⟩ = some (.func (.func 71) #[] #[]) ∧ w'.cell? ⟨w.heap.size, 0, none⟩ = some (.int .i64 xo) ∧ w'.cell? ⟨w.heap.size, 1, none⟩ = some (.int .i64 xl) ∧ w'.cell? ⟨w.heap.size, 2, none⟩ = some (.int .i64 xh) ∧ w'.cell? ⟨w.heap.size + 1, 0, none⟩ = some (.int .i64 yo) ∧ w'.cell? ⟨w.heap.size + 1, 1, none⟩ = some (.int .i64 yl) ∧ w'.cell? ⟨w.heap.size + 1, 2, none⟩ = some (.int .i64 yh) ∧ Grows w2 w') ((refine SOF.out _ ?_; (first | exact Grows.refl _ | exact (Grows.refl _).drew | assumption))) ((first | (go_at_call 71; (with_reducible refine (HK1.out w2.drew).mono ?_); rintro e w4 ⟨rfl, hg4'⟩; have hg4 : Grows w2 w4 := ((Grows.refl w2).drew).trans hg4'; clear hg4') | (go_at_call 71; (with_reducible refine (HK2.out w4).mono ?_); rintro e w5 ⟨rfl, hg5'⟩; have hg5 : Grows w2 w5 := hg4.trans hg5'; clear hg5') | (go_at_call 96; (with_reducible refine (HCM.out _).mono ?_); rintro e w6 ⟨rfl, rfl⟩)))
  rename_i hH
  have GH := Lib.hid (G0.out.trans hH.2.2.2.2.2.2.2)
  clear hH
  go_wp2_with fail
  go_ret
  exact ⟨rfl, GH.out⟩
theorem num72 (x : Si) (w : World) : Calls Tryz.prog 72 #[siV x] w fun e w' => e = .returned (.int .i64 x.hi) ∧ Grows w w' := by
  obtain ⟨o, l, h⟩ := x
  unfold siV
  have G := Lib.hid ((Grows.refl w).alloc (.cells #[.int .i64 o, .int .i64 l, .int .i64 h] 45))
  go_enter Tryz.func72, Tryz.ntmps72
  go_wp2
  go_ret
  exact ⟨rfl, G.out⟩
set_option maxHeartbeats 1000000 in
set_option maxRecDepth 100000 in
theorem by115_72 (x y : Si) (p : Nat) (w : World) (hp : w.cell? ⟨p, 0, none⟩ = some (.func (.func 72) #[] #[])) :
    Calls Tryz.prog 115 #[siV x, siV y, .pointer (some ⟨p, 0, none⟩)] w fun e w' => e = .returned (.int .i64 (cmpI x.hi y.hi)) ∧ Grows w w' := by
  have HK1 := Lib.hid (fun X => num72 x X)
  have HK2 := Lib.hid (fun X => num72 y X)
  have HCM := Lib.hid (fun X => cmp96 x.hi y.hi X)
  generalize cmpI x.hi y.hi = r at HCM ⊢
  generalize x.hi = fx at HK1 HCM
  generalize y.hi = fy at HK2 HCM
  obtain ⟨xo, xl, xh⟩ := x
  obtain ⟨yo, yl, yh⟩ := y
  unfold siV at HK1 HK2 ⊢
  simp only at HK1 HK2 ⊢
  have B1 := Lib.hid ((Blk.new w 45 #[.int .i64 xo, .int .i64 xl, .int .i64 xh]).alloc (.cells #[.int .i64 yo, .int .i64 yl, .int .i64 yh] 45))
  have B2 := Lib.hid (show Blk ((w.alloc (.cells #[.int .i64 xo, .int .i64 xl, .int .i64 xh] 45)).alloc (.cells #[.int .i64 yo, .int .i64 yl, .int .i64 yh] 45)) (w.heap.size + 1) 45 #[.int .i64 yo, .int .i64 yl, .int .i64 yh] by have := Blk.new (w.alloc (.cells #[.int .i64 xo, .int .i64 xl, .int .i64 xh] 45)) 45 #[.int .i64 yo, .int .i64 yl, .int .i64 yh]; rwa [World.size_alloc] at this)
  have G0 := Lib.hid (((Grows.refl w).alloc (.cells #[.int .i64 xo, .int .i64 xl, .int .i64 xh] 45)).alloc (.cells #[.int .i64 yo, .int .i64 yl, .int .i64 yh] 45))
  go_enter Tryz.func115, Tryz.ntmps115
  go_wp2_with fail
  have f0 := cell_keep hp G0.out.keeps
  generalize hw2 : (w.alloc (.cells #[.int .i64 xo, .int .i64 xl, .int .i64 xh] 45)).alloc (.cells #[.int .i64 yo, .int .i64 yl, .int .i64 yh] 45) = w2 at *
  clear hw2
  have x0 := cell_of_blk B1.out 0 (v := .int .i64 xo) rfl
  have x1 := cell_of_blk B1.out 1 (v := .int .i64 xl) rfl
  have x2 := cell_of_blk B1.out 2 (v := .int .i64 xh) rfl
  have y0 := cell_of_blk B2.out 0 (v := .int .i64 yo) rfl
  have y1 := cell_of_blk B2.out 1 (v := .int .i64 yl) rfl
  have y2 := cell_of_blk B2.out 2 (v := .int .i64 yh) rfl
  have SOF := Lib.hid (show ∀ X, Grows w2 X → (fun w' => w'.cell? ⟨p, 0, none⟩ = some (.func (.func 72) #[] #[]) ∧ w'.cell? ⟨w.heap.size, 0, none⟩ = some (.int .i64 xo) ∧ w'.cell? ⟨w.heap.size, 1, none⟩ = some (.int .i64 xl) ∧ w'.cell? ⟨w.heap.size, 2, none⟩ = some (.int .i64 xh) ∧ w'.cell? ⟨w.heap.size + 1, 0, none⟩ = some (.int .i64 yo) ∧ w'.cell? ⟨w.heap.size + 1, 1, none⟩ = some (.int .i64 yl) ∧ w'.cell? ⟨w.heap.size + 1, 2, none⟩ = some (.int .i64 yh) ∧ Grows w2 w') X from fun X hX => ⟨cell_keep f0 hX.keeps, cell_keep x0 hX.keeps, cell_keep x1 hX.keeps, cell_keep x2 hX.keeps, cell_keep y0 hX.keeps, cell_keep y1 hX.keeps, cell_keep y2 hX.keeps, hX⟩)
  clear hp f0 x0 x1 x2 y0 y1 y2
  go_region_held3 (fun w' => w'.cell? ⟨p, 0, none⟩ = some (.func (.func 72) #[] #[]) ∧ w'.cell? ⟨w.heap.size, 0, none⟩ = some (.int .i64 xo) ∧ w'.cell? ⟨w.heap.size, 1, none⟩ = some (.int .i64 xl) ∧ w'.cell? ⟨w.heap.size, 2, none⟩ = some (.int .i64 xh) ∧ w'.cell? ⟨w.heap.size + 1, 0, none⟩ = some (.int .i64 yo) ∧ w'.cell? ⟨w.heap.size + 1, 1, none⟩ = some (.int .i64 yl) ∧ w'.cell? ⟨w.heap.size + 1, 2, none⟩ = some (.int .i64 yh) ∧ Grows w2 w') ((refine SOF.out _ ?_; (first | exact Grows.refl _ | exact (Grows.refl _).drew | assumption))) ((first | (go_at_call 72; (with_reducible refine (HK1.out w2.drew).mono ?_); rintro e w4 ⟨rfl, hg4'⟩; have hg4 : Grows w2 w4 := ((Grows.refl w2).drew).trans hg4'; clear hg4') | (go_at_call 72; (with_reducible refine (HK2.out w4).mono ?_); rintro e w5 ⟨rfl, hg5'⟩; have hg5 : Grows w2 w5 := hg4.trans hg5'; clear hg5') | (go_at_call 96; (with_reducible refine (HCM.out _).mono ?_); rintro e w6 ⟨rfl, rfl⟩)))
  rename_i hH
  have GH := Lib.hid (G0.out.trans hH.2.2.2.2.2.2.2)
  clear hH
  go_wp2_with fail
  go_ret
  exact ⟨rfl, GH.out⟩
set_option maxRecDepth 100000 in
theorem or117 (a b : Int) (A : Option Addr) (w : World) (h : RecIn intR w w.heap.size A [a, b]) : Calls Tryz.prog 117 #[.slice A 2 2] w fun e w' => e = .returned (.int .i64 (if a = 0 then b else a)) ∧ w' = w := by
  obtain ⟨ba, oa, rfl, _, c0⟩ := h.int (j := 0) rfl
  obtain ⟨bb, ob, e, _, c1⟩ := h.int (j := 1) rfl
  cases e
  simp only [Nat.add_zero] at c0
  have h0 : ∀ x : Int, (x != 0) = decide (x ≠ 0) := fun x => by by_cases hx : x = 0 <;> simp [hx]
  by_cases ha : a = 0
  · subst ha
    by_cases hb : b = 0
    · subst hb
      have HE := Lib.hid (show (if (0 : Int) = 0 then (0 : Int) else 0) = 0 from rfl)
      go_enter Tryz.func117, Tryz.ntmps117
      go_wp2
      refine wp_loop_rounds 3 ?_
      rw [rounds_succ]
      go_wp2
      rw [rounds_succ]
      go_wp2
      rw [rounds_succ]
      go_wp2
      go_ret
      exact ⟨rfl, rfl⟩
    · have hb' : (b != 0) = true := by simpa using hb
      go_enter Tryz.func117, Tryz.ntmps117
      go_wp2
      refine wp_loop_rounds 2 ?_
      rw [rounds_succ]
      go_wp2
      rw [rounds_succ]
      go_wp2
      go_ret
      exact ⟨rfl, rfl⟩
  · have ha' : (a != 0) = true := by simpa using ha
    rw [if_neg ha]
    go_enter Tryz.func117, Tryz.ntmps117
    go_wp2
    refine wp_loop_rounds 1 ?_
    rw [rounds_succ]
    go_wp2
    go_ret
    exact ⟨rfl, rfl⟩
end Go.Proofs.YthkmpegpmpdhaaaGreatDoor
