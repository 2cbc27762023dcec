/- Part of the proof of TopOwnItem. Conditions: as stated in each theorem. -/
import Derived.Test.YthkmpegpmpdhaaaGreatDoorCa
import Derived.WalkMore
import Derived.Maps.OwnIn
import Derived.Deep.LoopGhost
import Derived.RangeFuncNested
import Derived.RangeFuncCalls
import Derived.RangeFuncLeaves
import Derived.RangeFuncWrites
import Derived.Shelf.Abstract
import Derived.Shelf.RegionOpen
import Derived.OwnWalkIn
import Derived.TacticsInMore
import Derived.LoopNIn
import Derived.LoopIn
import Derived.RangeFuncBound
import Derived.Test.YthkmpegpmpdhaaaGreatDoorProg
import Derived.WalkKit
import Derived.WalkSpells
import Derived.WalkLawsBesides
import Derived.Laws.EntriesVeiled
import Derived.ProofKit
import Derived.OpenShut
import Derived.Lib.Hide
import Derived.BigQuiet
import Derived.Deep.QuietTactic
import Derived.Deep.CutRange
import Derived.StillTailTactics
import Derived.Lib.SliceRun
import Derived.RangeFuncRecord
import Derived.Carry
import Derived.ChangeKeysEq
import Derived.Below
import Derived.Laws.OwnMore
import Derived.Deep.AppendLies
import Derived.Deep.Draws
import Derived.Laws.Rows
import Derived.Maps.AppendAt
import Derived.RegionTactic
import Derived.OwnWalk
import Derived.Deep.RegionHeld3
namespace Go.Proofs.YthkmpegpmpdhaaaGreatDoor
open Go.Shelf Go.ChangeShapes Go.WideShapes Go.ChangeAt Go.RowKit
set_option linter.unusedSimpArgs false
set_option linter.unusedVariables false
def orI (a b : Int) : Int := if a = 0 then b else a
def fv115 (a : Nat) : Value := .func (.func 115) #[] #[.pointer (some ⟨a, 0, none⟩)]
def fv116 (p q : Nat) : Value := .func (.func 116) #[] #[.pointer (some ⟨p, 0, none⟩), .pointer (some ⟨q, 0, none⟩)]
set_option maxHeartbeats 1000000 in
set_option maxRecDepth 100000 in
theorem then116_a (x y : Si) (p q a b : Nat) (w : World) (hp : w.cell? ⟨p, 0, none⟩ = some (fv115 a)) (hq : w.cell? ⟨q, 0, none⟩ = some (fv115 b)) (ha : w.cell? ⟨a, 0, none⟩ = some (.func (.func 69) #[] #[])) (hb : w.cell? ⟨b, 0, none⟩ = some (.func (.func 71) #[] #[])) :
    Calls Tryz.prog 116 #[siV x, siV y, .pointer (some ⟨p, 0, none⟩), .pointer (some ⟨q, 0, none⟩)] w fun e w' => e = .returned (.int .i64 (orI (cmpI x.off y.off) (cmpI x.lo y.lo))) ∧ Grows w w' := by
  have HK1 := Lib.hid (fun X (hk : Keeps w X) => by115_69 x y a X (cell_keep ha hk))
  have HK2 := Lib.hid (fun X (hk : Keeps w X) => by115_71 x y b X (cell_keep hb hk))
  generalize cmpI x.off y.off = r1 at HK1 ⊢
  generalize cmpI x.lo y.lo = r2 at HK2 ⊢
  have HOR := Lib.hid (fun A W (h : RecIn intR W W.heap.size A [r1, r2]) => or117 r1 r2 A W h)
  change Hid (∀ A W, RecIn intR W W.heap.size A [r1, r2] → Calls Tryz.prog 117 #[.slice A 2 2] W fun e w' => e = .returned (.int .i64 (orI r1 r2)) ∧ w' = W) at HOR
  generalize orI r1 r2 = ro at HOR ⊢
  clear ha hb
  unfold fv115 at hp
  unfold fv115 at hq
  obtain ⟨xo, xl, xh⟩ := x
  obtain ⟨yo, yl, yh⟩ := y
  unfold siV at HK1 HK2 ⊢
  simp only at HK1 HK2 ⊢
  have B1 := Lib.hid ((Blk.new w 45 #[.int .i64 xo, .int .i64 xl, .int .i64 xh]).alloc (.cells #[.int .i64 yo, .int .i64 yl, .int .i64 yh] 45))
  have B2 := Lib.hid (show Blk ((w.alloc (.cells #[.int .i64 xo, .int .i64 xl, .int .i64 xh] 45)).alloc (.cells #[.int .i64 yo, .int .i64 yl, .int .i64 yh] 45)) (w.heap.size + 1) 45 #[.int .i64 yo, .int .i64 yl, .int .i64 yh] by have := Blk.new (w.alloc (.cells #[.int .i64 xo, .int .i64 xl, .int .i64 xh] 45)) 45 #[.int .i64 yo, .int .i64 yl, .int .i64 yh]; rwa [World.size_alloc] at this)
  have G0 := Lib.hid (((Grows.refl w).alloc (.cells #[.int .i64 xo, .int .i64 xl, .int .i64 xh] 45)).alloc (.cells #[.int .i64 yo, .int .i64 yl, .int .i64 yh] 45))
  go_enter Tryz.func116, Tryz.ntmps116
  go_wp2_with fail
  have f0 := cell_keep hp G0.out.keeps
  have f1 := cell_keep hq G0.out.keeps
  generalize hw2 : (w.alloc (.cells #[.int .i64 xo, .int .i64 xl, .int .i64 xh] 45)).alloc (.cells #[.int .i64 yo, .int .i64 yl, .int .i64 yh] 45) = w2 at *
  clear hw2
  have x0 := cell_of_blk B1.out 0 (v := .int .i64 xo) rfl
  have x1 := cell_of_blk B1.out 1 (v := .int .i64 xl) rfl
  have x2 := cell_of_blk B1.out 2 (v := .int .i64 xh) rfl
  have y0 := cell_of_blk B2.out 0 (v := .int .i64 yo) rfl
  have y1 := cell_of_blk B2.out 1 (v := .int .i64 yl) rfl
  have y2 := cell_of_blk B2.out 2 (v := .int .i64 yh) rfl
  have SOF := Lib.hid (show ∀ X, Grows w2 X → (fun w' => w'.cell? ⟨p, 0, none⟩ = some (.func (.func 115) #[] #[.pointer (some ⟨a, 0, none⟩)]) ∧ w'.cell? ⟨q, 0, none⟩ = some (.func (.func 115) #[] #[.pointer (some ⟨b, 0, none⟩)]) ∧ w'.cell? ⟨w.heap.size, 0, none⟩ = some (.int .i64 xo) ∧ w'.cell? ⟨w.heap.size, 1, none⟩ = some (.int .i64 xl) ∧ w'.cell? ⟨w.heap.size, 2, none⟩ = some (.int .i64 xh) ∧ w'.cell? ⟨w.heap.size + 1, 0, none⟩ = some (.int .i64 yo) ∧ w'.cell? ⟨w.heap.size + 1, 1, none⟩ = some (.int .i64 yl) ∧ w'.cell? ⟨w.heap.size + 1, 2, none⟩ = some (.int .i64 yh) ∧ Grows w2 w') X from fun X hX => ⟨cell_keep f0 hX.keeps, cell_keep f1 hX.keeps, cell_keep x0 hX.keeps, cell_keep x1 hX.keeps, cell_keep x2 hX.keeps, cell_keep y0 hX.keeps, cell_keep y1 hX.keeps, cell_keep y2 hX.keeps, hX⟩)
  clear hp hq f0 f1 x0 x1 x2 y0 y1 y2
  go_region_held3 (fun w' => w'.cell? ⟨p, 0, none⟩ = some (.func (.func 115) #[] #[.pointer (some ⟨a, 0, none⟩)]) ∧ w'.cell? ⟨q, 0, none⟩ = some (.func (.func 115) #[] #[.pointer (some ⟨b, 0, none⟩)]) ∧ w'.cell? ⟨w.heap.size, 0, none⟩ = some (.int .i64 xo) ∧ w'.cell? ⟨w.heap.size, 1, none⟩ = some (.int .i64 xl) ∧ w'.cell? ⟨w.heap.size, 2, none⟩ = some (.int .i64 xh) ∧ w'.cell? ⟨w.heap.size + 1, 0, none⟩ = some (.int .i64 yo) ∧ w'.cell? ⟨w.heap.size + 1, 1, none⟩ = some (.int .i64 yl) ∧ w'.cell? ⟨w.heap.size + 1, 2, none⟩ = some (.int .i64 yh) ∧ Grows w2 w') ((refine SOF.out _ ?_; (first | exact Grows.refl _ | exact (Grows.refl _).drew | assumption | exact hg5.alloc _))) ((first | (go_at_call 115; (with_reducible refine (HK1.out w2.drew (G0.out.drew).keeps).mono ?_); rintro e w4 ⟨rfl, hg4'⟩; have hg4 : Grows w2 w4 := ((Grows.refl w2).drew).trans hg4'; have G4 := Lib.hid (G0.out.trans hg4); clear hg4') | (go_at_call 115; (with_reducible refine (HK2.out w4 G4.out.keeps).mono ?_); rintro e w5 ⟨rfl, hg5'⟩; have hg5 : Grows w2 w5 := hg4.trans hg5'; have X5 := Lib.hid (RecIn.lit intOk w5 [r1, r2] #[.int .i64 r1, .int .i64 r2] rfl); clear hg5') | (go_at_call 117; (with_reducible refine (HOR.out _ _ X5.out).mono ?_); rintro e w6 ⟨rfl, rfl⟩)))
  rename_i hH
  have GH := Lib.hid (G0.out.trans hH.2.2.2.2.2.2.2.2)
  clear hH
  go_wp2_with fail
  go_ret
  exact ⟨rfl, GH.out⟩
set_option maxHeartbeats 1000000 in
set_option maxRecDepth 100000 in
theorem then116_b (x y : Si) (p q p1 q1 a b c : Nat) (w : World) (hp : w.cell? ⟨p, 0, none⟩ = some (fv116 p1 q1)) (hq : w.cell? ⟨q, 0, none⟩ = some (fv115 c)) (hp1 : w.cell? ⟨p1, 0, none⟩ = some (fv115 a)) (hq1 : w.cell? ⟨q1, 0, none⟩ = some (fv115 b)) (ha : w.cell? ⟨a, 0, none⟩ = some (.func (.func 69) #[] #[])) (hb : w.cell? ⟨b, 0, none⟩ = some (.func (.func 71) #[] #[])) (hc : w.cell? ⟨c, 0, none⟩ = some (.func (.func 72) #[] #[])) :
    Calls Tryz.prog 116 #[siV x, siV y, .pointer (some ⟨p, 0, none⟩), .pointer (some ⟨q, 0, none⟩)] w fun e w' => e = .returned (.int .i64 (orI (orI (cmpI x.off y.off) (cmpI x.lo y.lo)) (cmpI x.hi y.hi))) ∧ Grows w w' := by
  have HK1 := Lib.hid (fun X (hk : Keeps w X) => then116_a x y p1 q1 a b X (cell_keep hp1 hk) (cell_keep hq1 hk) (cell_keep ha hk) (cell_keep hb hk))
  have HK2 := Lib.hid (fun X (hk : Keeps w X) => by115_72 x y c X (cell_keep hc hk))
  generalize orI (cmpI x.off y.off) (cmpI x.lo y.lo) = r1 at HK1 ⊢
  generalize cmpI x.hi y.hi = r2 at HK2 ⊢
  have HOR := Lib.hid (fun A W (h : RecIn intR W W.heap.size A [r1, r2]) => or117 r1 r2 A W h)
  change Hid (∀ A W, RecIn intR W W.heap.size A [r1, r2] → Calls Tryz.prog 117 #[.slice A 2 2] W fun e w' => e = .returned (.int .i64 (orI r1 r2)) ∧ w' = W) at HOR
  generalize orI r1 r2 = ro at HOR ⊢
  clear ha hb hc hp1 hq1
  unfold fv116 at hp
  unfold fv115 at hq
  obtain ⟨xo, xl, xh⟩ := x
  obtain ⟨yo, yl, yh⟩ := y
  unfold siV at HK1 HK2 ⊢
  simp only at HK1 HK2 ⊢
  have B1 := Lib.hid ((Blk.new w 45 #[.int .i64 xo, .int .i64 xl, .int .i64 xh]).alloc (.cells #[.int .i64 yo, .int .i64 yl, .int .i64 yh] 45))
  have B2 := Lib.hid (show Blk ((w.alloc (.cells #[.int .i64 xo, .int .i64 xl, .int .i64 xh] 45)).alloc (.cells #[.int .i64 yo, .int .i64 yl, .int .i64 yh] 45)) (w.heap.size + 1) 45 #[.int .i64 yo, .int .i64 yl, .int .i64 yh] by have := Blk.new (w.alloc (.cells #[.int .i64 xo, .int .i64 xl, .int .i64 xh] 45)) 45 #[.int .i64 yo, .int .i64 yl, .int .i64 yh]; rwa [World.size_alloc] at this)
  have G0 := Lib.hid (((Grows.refl w).alloc (.cells #[.int .i64 xo, .int .i64 xl, .int .i64 xh] 45)).alloc (.cells #[.int .i64 yo, .int .i64 yl, .int .i64 yh] 45))
  go_enter Tryz.func116, Tryz.ntmps116
  go_wp2_with fail
  have f0 := cell_keep hp G0.out.keeps
  have f1 := cell_keep hq G0.out.keeps
  generalize hw2 : (w.alloc (.cells #[.int .i64 xo, .int .i64 xl, .int .i64 xh] 45)).alloc (.cells #[.int .i64 yo, .int .i64 yl, .int .i64 yh] 45) = w2 at *
  clear hw2
  have x0 := cell_of_blk B1.out 0 (v := .int .i64 xo) rfl
  have x1 := cell_of_blk B1.out 1 (v := .int .i64 xl) rfl
  have x2 := cell_of_blk B1.out 2 (v := .int .i64 xh) rfl
  have y0 := cell_of_blk B2.out 0 (v := .int .i64 yo) rfl
  have y1 := cell_of_blk B2.out 1 (v := .int .i64 yl) rfl
  have y2 := cell_of_blk B2.out 2 (v := .int .i64 yh) rfl
  have SOF := Lib.hid (show ∀ X, Grows w2 X → (fun w' => w'.cell? ⟨p, 0, none⟩ = some (.func (.func 116) #[] #[.pointer (some ⟨p1, 0, none⟩), .pointer (some ⟨q1, 0, none⟩)]) ∧ w'.cell? ⟨q, 0, none⟩ = some (.func (.func 115) #[] #[.pointer (some ⟨c, 0, none⟩)]) ∧ w'.cell? ⟨w.heap.size, 0, none⟩ = some (.int .i64 xo) ∧ w'.cell? ⟨w.heap.size, 1, none⟩ = some (.int .i64 xl) ∧ w'.cell? ⟨w.heap.size, 2, none⟩ = some (.int .i64 xh) ∧ w'.cell? ⟨w.heap.size + 1, 0, none⟩ = some (.int .i64 yo) ∧ w'.cell? ⟨w.heap.size + 1, 1, none⟩ = some (.int .i64 yl) ∧ w'.cell? ⟨w.heap.size + 1, 2, none⟩ = some (.int .i64 yh) ∧ Grows w2 w') X from fun X hX => ⟨cell_keep f0 hX.keeps, cell_keep f1 hX.keeps, cell_keep x0 hX.keeps, cell_keep x1 hX.keeps, cell_keep x2 hX.keeps, cell_keep y0 hX.keeps, cell_keep y1 hX.keeps, cell_keep y2 hX.keeps, hX⟩)
  clear hp hq f0 f1 x0 x1 x2 y0 y1 y2
  go_region_held3 (fun w' => w'.cell? ⟨p, 0, none⟩ = some (.func (.func 116) #[] #[.pointer (some ⟨p1, 0, none⟩), .pointer (some ⟨q1, 0, none⟩)]) ∧ w'.cell? ⟨q, 0, none⟩ = some (.func (.func 115) #[] #[.pointer (some ⟨c, 0, none⟩)]) ∧ w'.cell? ⟨w.heap.size, 0, none⟩ = some (.int .i64 xo) ∧ w'.cell? ⟨w.heap.size, 1, none⟩ = some (.int .i64 xl) ∧ w'.cell? ⟨w.heap.size, 2, none⟩ = some (.int .i64 xh) ∧ w'.cell? ⟨w.heap.size + 1, 0, none⟩ = some (.int .i64 yo) ∧ w'.cell? ⟨w.heap.size + 1, 1, none⟩ = some (.int .i64 yl) ∧ w'.cell? ⟨w.heap.size + 1, 2, none⟩ = some (.int .i64 yh) ∧ Grows w2 w') ((refine SOF.out _ ?_; (first | exact Grows.refl _ | exact (Grows.refl _).drew | assumption | exact hg5.alloc _))) ((first | (go_at_call 116; (with_reducible refine (HK1.out w2.drew (G0.out.drew).keeps).mono ?_); rintro e w4 ⟨rfl, hg4'⟩; have hg4 : Grows w2 w4 := ((Grows.refl w2).drew).trans hg4'; have G4 := Lib.hid (G0.out.trans hg4); clear hg4') | (go_at_call 115; (with_reducible refine (HK2.out w4 G4.out.keeps).mono ?_); rintro e w5 ⟨rfl, hg5'⟩; have hg5 : Grows w2 w5 := hg4.trans hg5'; have X5 := Lib.hid (RecIn.lit intOk w5 [r1, r2] #[.int .i64 r1, .int .i64 r2] rfl); clear hg5') | (go_at_call 117; (with_reducible refine (HOR.out _ _ X5.out).mono ?_); rintro e w6 ⟨rfl, rfl⟩)))
  rename_i hH
  have GH := Lib.hid (G0.out.trans hH.2.2.2.2.2.2.2.2)
  clear hH
  go_wp2_with fail
  go_ret
  exact ⟨rfl, GH.out⟩
end Go.Proofs.YthkmpegpmpdhaaaGreatDoor
