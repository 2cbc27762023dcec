/- Part of the proof of TopOwnItem. Conditions: as stated in each theorem. -/
import Derived.Test.YthkmpegpmpdhaaaGreatDoorZNd
import Derived.Test.YthkmpegpmpdhaaaGreatDoorProg
import Derived.WalkMore
import Derived.LoopN
import Derived.Lib.ConvBytes
import Derived.Maps.OwnIn
import Derived.Deep.LoopGhost
import Derived.RangeFuncNested
import Derived.RangeFuncCalls
import Derived.RangeFuncLeaves
import Derived.RangeFuncWrites
import Derived.Shelf.Abstract
import Derived.Shelf.RegionOpen
import Derived.OwnWalkIn
import Derived.TacticsInMore
import Derived.LoopNIn
import Derived.LoopIn
import Derived.RangeFuncBound
import Derived.WalkKit
import Derived.WalkSpells
import Derived.WalkLawsBesides
import Derived.Laws.EntriesVeiled
import Derived.ProofKit
import Derived.OpenShut
import Derived.Lib.Hide
import Derived.BigQuiet
import Derived.Deep.QuietTactic
import Derived.Deep.CutRange
import Derived.StillTailTactics
import Derived.Lib.SliceRun
import Derived.RangeFuncRecord
import Derived.Carry
import Derived.ChangeKeysEq
import Derived.Below
import Derived.Laws.OwnMore
import Derived.Deep.AppendLies
import Derived.Deep.Draws
import Derived.Laws.Rows
import Derived.Maps.AppendAt
import Derived.RegionTactic
import Derived.OwnWalk
import Derived.Deep.RegionHeld3
namespace Go.Proofs.YthkmpegpmpdhaaaGreatDoor
open Go.Shelf Go.ChangeShapes Go.WideShapes Go.ChangeAt Go.RowKit
set_option linter.unusedSimpArgs false
set_option linter.unusedVariables false
attribute [local go_sem] Oper.semAt_some
set_option maxRecDepth 100000 in
set_option maxHeartbeats 8000000 in
theorem rule246_0 (FB NB bw bc bn bo bf bl bk : Nat) (w : World) (hN : Blk w NB 87 (netC bc bn bo bf bl bk)) (h : Net w bw bc bn bo bf bl bk) (hk : Kw w) (hf : w.cell? ⟨FB, 0, none⟩ = some (.func (.func 203) #[] #[.pointer (some ⟨NB, 0, none⟩)])) : Calls Tryz.prog 246 #[.int .i64 0, .pointer (some ⟨FB, 0, none⟩)] w fun e w' => e = .returned (.int .i64 0) ∧ Keeps w w' := by
  have H1 := Lib.hid (name203_0 NB bw bc bn bo bf bl bk w hN h)
  have H2 := Lib.hid (isName240 97 w hk (by decide))
  clear hN h hk
  go_enter Tryz.func246, Tryz.ntmps246
  go_wp2_with (first | (go_at_call 203; (with_reducible refine H1.out.mono ?_); rintro e w1 ⟨rfl, rfl⟩) | (go_at_call 240; (with_reducible refine H2.out.mono ?_); rintro e w1 ⟨rfl, hkk⟩; have K := Lib.hid hkk; clear hkk))
  go_ret
  exact ⟨rfl, K.out⟩
set_option maxRecDepth 100000 in
set_option maxHeartbeats 8000000 in
theorem rule246_1 (FB NB bw bc bn bo bf bl bk : Nat) (w : World) (hN : Blk w NB 87 (netC bc bn bo bf bl bk)) (h : Net w bw bc bn bo bf bl bk) (hk : Kw w) (hf : w.cell? ⟨FB, 0, none⟩ = some (.func (.func 203) #[] #[.pointer (some ⟨NB, 0, none⟩)])) : Calls Tryz.prog 246 #[.int .i64 1, .pointer (some ⟨FB, 0, none⟩)] w fun e w' => e = .returned (.int .i64 0) ∧ Keeps w w' := by
  have H1 := Lib.hid (name203_1 NB bw bc bn bo bf bl bk w hN h)
  have H2 := Lib.hid (isName240 98 w hk (by decide))
  clear hN h hk
  go_enter Tryz.func246, Tryz.ntmps246
  go_wp2_with (first | (go_at_call 203; (with_reducible refine H1.out.mono ?_); rintro e w1 ⟨rfl, rfl⟩) | (go_at_call 240; (with_reducible refine H2.out.mono ?_); rintro e w1 ⟨rfl, hkk⟩; have K := Lib.hid hkk; clear hkk))
  go_ret
  exact ⟨rfl, K.out⟩
set_option maxRecDepth 100000 in
set_option maxHeartbeats 8000000 in
theorem twice247_0 (FB NB bw bc bn bo bf bl bk : Nat) (w : World) (hN : Blk w NB 87 (netC bc bn bo bf bl bk)) (h : Net w bw bc bn bo bf bl bk) (hf : w.cell? ⟨FB, 0, none⟩ = some (.func (.func 203) #[] #[.pointer (some ⟨NB, 0, none⟩)])) : Calls Tryz.prog 247 #[.int .i64 0, .pointer (some ⟨FB, 0, none⟩)] w fun e w' => e = .returned (.int .i64 0) ∧ Keeps w w' := by
  clear hN h
  have K := Lib.hid (Keeps.refl w)
  go_enter Tryz.func247, Tryz.ntmps247
  go_wp2_with fail
  refine wp_loop_rounds 1 ?_
  rw [rounds_succ]
  go_wp2_with fail
  go_ret
  exact ⟨rfl, K.out⟩
set_option maxRecDepth 100000 in
set_option maxHeartbeats 8000000 in
theorem twice247_1 (FB NB bw bc bn bo bf bl bk : Nat) (w : World) (hN : Blk w NB 87 (netC bc bn bo bf bl bk)) (h : Net w bw bc bn bo bf bl bk) (hf : w.cell? ⟨FB, 0, none⟩ = some (.func (.func 203) #[] #[.pointer (some ⟨NB, 0, none⟩)])) : Calls Tryz.prog 247 #[.int .i64 1, .pointer (some ⟨FB, 0, none⟩)] w fun e w' => e = .returned (.int .i64 0) ∧ Keeps w w' := by
  have H0 := Lib.hid (fun X (hX : Keeps w X) => name203_0 NB bw bc bn bo bf bl bk X (hN.below hX hN.lt) (h.keep hX))
  have H1 := Lib.hid (fun X (hX : Keeps w X) => name203_1 NB bw bc bn bo bf bl bk X (hN.below hX hN.lt) (h.keep hX))
  clear hN h
  have K := Lib.hid (Keeps.refl w)
  go_enter Tryz.func247, Tryz.ntmps247
  go_wp2_with fail
  refine wp_loop_rounds 2 ?_
  rw [rounds_succ]
  go_wp2_with fail
  go_quiet ((first | (go_at_call 203; exact Calls.quiet_of_same (H0.out _ (K.out.drewN _))) | (go_at_call 203; exact Calls.quiet_of_same (H1.out _ (K.out.drewN _)))))
  go_wp2_with fail
  rw [rounds_succ]
  go_wp2_with fail
  go_ret
  exact ⟨rfl, K.out.drewN _⟩
set_option maxRecDepth 100000 in
set_option maxHeartbeats 8000000 in
theorem good248_0 (GB TB NB bw bc bn bo bf bl bk : Nat) (w : World) (hN : Blk w NB 87 (netC bc bn bo bf bl bk)) (h : Net w bw bc bn bo bf bl bk) (hf : w.cell? ⟨GB, 0, none⟩ = some (.func (.func 205) #[] #[.pointer (some ⟨NB, 0, none⟩)])) (ht : w.cell? ⟨TB, 0, none⟩ = some (.slice (some ⟨bf, 0, none⟩) 2 2)) : Calls Tryz.prog 248 #[.int .i64 0, .pointer (some ⟨GB, 0, none⟩), .pointer (some ⟨TB, 0, none⟩)] w fun e w' => e = .returned (.int .i64 0) ∧ Keeps w w' := by
  have c0 := h.of_.cell 0
  have c1 := h.of_.cell 1
  have c2 := h.of_.cell 2
  have c3 := h.of_.cell 3
  have c4 := h.of_.cell 4
  have c5 := h.of_.cell 5
  have c6 := h.of_.cell 6
  have H1 := Lib.hid (show ∀ X, Keeps w X → Calls Tryz.prog 205 #[.agg #[.string ⟨#[97]⟩, .int .i64 0, .int .i64 0, .int .i64 2, .int .i64 1, .int .i64 10, .slice none 0 0], .pointer (some ⟨NB, 0, none⟩)] X (BoolPost true X) from fun X hX => office205 NB bc bn bo bf bl bk ⟨#[97]⟩ 0 X (hN.below hX hN.lt) (by decide))
  clear hN h
  have K := Lib.hid ((Keeps.refl w).drew)
  go_enter Tryz.func248, Tryz.ntmps248
  go_wp2_with fail
  go_region_with (go_at_call 205; (with_reducible refine (H1.out _ K.out).mono ?_); rintro e w1 ⟨rfl, hkk⟩; have K2 := Lib.hid (K.out.trans hkk); clear hkk)
  all_goals (go_wp2_with fail; go_ret; exact ⟨rfl, K2.out⟩)
set_option maxRecDepth 100000 in
set_option maxHeartbeats 8000000 in
theorem good248_1 (GB TB NB bw bc bn bo bf bl bk : Nat) (w : World) (hN : Blk w NB 87 (netC bc bn bo bf bl bk)) (h : Net w bw bc bn bo bf bl bk) (hf : w.cell? ⟨GB, 0, none⟩ = some (.func (.func 205) #[] #[.pointer (some ⟨NB, 0, none⟩)])) (ht : w.cell? ⟨TB, 0, none⟩ = some (.slice (some ⟨bf, 0, none⟩) 2 2)) : Calls Tryz.prog 248 #[.int .i64 1, .pointer (some ⟨GB, 0, none⟩), .pointer (some ⟨TB, 0, none⟩)] w fun e w' => e = .returned (.int .i64 0) ∧ Keeps w w' := by
  have c0 := h.of_.cell 7
  have c1 := h.of_.cell 8
  have c2 := h.of_.cell 9
  have c3 := h.of_.cell 10
  have c4 := h.of_.cell 11
  have c5 := h.of_.cell 12
  have c6 := h.of_.cell 13
  have H1 := Lib.hid (show ∀ X, Keeps w X → Calls Tryz.prog 205 #[.agg #[.string ⟨#[98]⟩, .int .i64 1, .int .i64 0, .int .i64 2, .int .i64 1, .int .i64 10, .slice none 0 0], .pointer (some ⟨NB, 0, none⟩)] X (BoolPost true X) from fun X hX => office205 NB bc bn bo bf bl bk ⟨#[98]⟩ 1 X (hN.below hX hN.lt) (by decide))
  clear hN h
  have K := Lib.hid ((Keeps.refl w).drew)
  go_enter Tryz.func248, Tryz.ntmps248
  go_wp2_with fail
  go_region_with (go_at_call 205; (with_reducible refine (H1.out _ K.out).mono ?_); rintro e w1 ⟨rfl, hkk⟩; have K2 := Lib.hid (K.out.trans hkk); clear hkk)
  all_goals (go_wp2_with fail; go_ret; exact ⟨rfl, K2.out⟩)
set_option maxRecDepth 100000 in
set_option maxHeartbeats 8000000 in
theorem check204 (NB bw bc bn bo bf bl bk : Nat) (w : World) (hN : Blk w NB 87 (netC bc bn bo bf bl bk)) (h : Net w bw bc bn bo bf bl bk) (hk : Kw w) : Calls Tryz.prog 204 #[.int .i64 3, .int .i64 12, .slice (some ⟨bf, 0, none⟩) 2 2, .func (.func 203) #[] #[.pointer (some ⟨NB, 0, none⟩)], .func (.func 205) #[] #[.pointer (some ⟨NB, 0, none⟩)]] w fun e w' => e = .returned (.slice none 0 0) ∧ Keeps w w' := by
  have k4 := ((((Keeps.refl w).alloc (.cells #[.slice (some ⟨bf, 0, none⟩) 2 2] 83)).alloc (.cells #[.func (.func 203) #[] #[.pointer (some ⟨NB, 0, none⟩)]] 207)).alloc (.cells #[.func (.func 205) #[] #[.pointer (some ⟨NB, 0, none⟩)]] 293)).alloc (.cells #[.func (.func 246) #[] #[.pointer (some ⟨w.heap.size + 1, 0, none⟩)], .func (.func 247) #[] #[.pointer (some ⟨w.heap.size + 1, 0, none⟩)], .func (.func 248) #[] #[.pointer (some ⟨w.heap.size + 1 + 1, 0, none⟩), .pointer (some ⟨w.heap.size, 0, none⟩)]] 322)
  have hB1 := (((Blk.new w 83 #[.slice (some ⟨bf, 0, none⟩) 2 2]).alloc (.cells #[.func (.func 203) #[] #[.pointer (some ⟨NB, 0, none⟩)]] 207)).alloc (.cells #[.func (.func 205) #[] #[.pointer (some ⟨NB, 0, none⟩)]] 293)).alloc (.cells #[.func (.func 246) #[] #[.pointer (some ⟨w.heap.size + 1, 0, none⟩)], .func (.func 247) #[] #[.pointer (some ⟨w.heap.size + 1, 0, none⟩)], .func (.func 248) #[] #[.pointer (some ⟨w.heap.size + 1 + 1, 0, none⟩), .pointer (some ⟨w.heap.size, 0, none⟩)]] 322)
  have hB2 := ((Blk.new (w.alloc (.cells #[.slice (some ⟨bf, 0, none⟩) 2 2] 83)) 207 #[.func (.func 203) #[] #[.pointer (some ⟨NB, 0, none⟩)]]).alloc (.cells #[.func (.func 205) #[] #[.pointer (some ⟨NB, 0, none⟩)]] 293)).alloc (.cells #[.func (.func 246) #[] #[.pointer (some ⟨w.heap.size + 1, 0, none⟩)], .func (.func 247) #[] #[.pointer (some ⟨w.heap.size + 1, 0, none⟩)], .func (.func 248) #[] #[.pointer (some ⟨w.heap.size + 1 + 1, 0, none⟩), .pointer (some ⟨w.heap.size, 0, none⟩)]] 322)
  have hB3 := (Blk.new ((w.alloc (.cells #[.slice (some ⟨bf, 0, none⟩) 2 2] 83)).alloc (.cells #[.func (.func 203) #[] #[.pointer (some ⟨NB, 0, none⟩)]] 207)) 293 #[.func (.func 205) #[] #[.pointer (some ⟨NB, 0, none⟩)]]).alloc (.cells #[.func (.func 246) #[] #[.pointer (some ⟨w.heap.size + 1, 0, none⟩)], .func (.func 247) #[] #[.pointer (some ⟨w.heap.size + 1, 0, none⟩)], .func (.func 248) #[] #[.pointer (some ⟨w.heap.size + 1 + 1, 0, none⟩), .pointer (some ⟨w.heap.size, 0, none⟩)]] 322)
  have hB4 := Blk.new (((w.alloc (.cells #[.slice (some ⟨bf, 0, none⟩) 2 2] 83)).alloc (.cells #[.func (.func 203) #[] #[.pointer (some ⟨NB, 0, none⟩)]] 207)).alloc (.cells #[.func (.func 205) #[] #[.pointer (some ⟨NB, 0, none⟩)]] 293)) 322 #[.func (.func 246) #[] #[.pointer (some ⟨w.heap.size + 1, 0, none⟩)], .func (.func 247) #[] #[.pointer (some ⟨w.heap.size + 1, 0, none⟩)], .func (.func 248) #[] #[.pointer (some ⟨w.heap.size + 1 + 1, 0, none⟩), .pointer (some ⟨w.heap.size, 0, none⟩)]]
  rw [World.size_alloc] at hB2
  rw [World.size_alloc, World.size_alloc] at hB3
  rw [World.size_alloc, World.size_alloc, World.size_alloc] at hB4
  have d1 := hB1.cell 0
  have d2 := hB2.cell 0
  have d3 := hB3.cell 0
  have AC := Lib.hid (fun X (hX : Keeps ((((w.alloc (.cells #[.slice (some ⟨bf, 0, none⟩) 2 2] 83)).alloc (.cells #[.func (.func 203) #[] #[.pointer (some ⟨NB, 0, none⟩)]] 207)).alloc (.cells #[.func (.func 205) #[] #[.pointer (some ⟨NB, 0, none⟩)]] 293)).alloc (.cells #[.func (.func 246) #[] #[.pointer (some ⟨w.heap.size + 1, 0, none⟩)], .func (.func 247) #[] #[.pointer (some ⟨w.heap.size + 1, 0, none⟩)], .func (.func 248) #[] #[.pointer (some ⟨w.heap.size + 1 + 1, 0, none⟩), .pointer (some ⟨w.heap.size, 0, none⟩)]] 322)) X) => (⟨cell_keep (hB4.cell 0) hX, cell_keep (hB4.cell 1) hX, cell_keep (hB4.cell 2) hX⟩ : _ ∧ _ ∧ _))
  have SC := Lib.hid (fun X (hX : Keeps ((((w.alloc (.cells #[.slice (some ⟨bf, 0, none⟩) 2 2] 83)).alloc (.cells #[.func (.func 203) #[] #[.pointer (some ⟨NB, 0, none⟩)]] 207)).alloc (.cells #[.func (.func 205) #[] #[.pointer (some ⟨NB, 0, none⟩)]] 293)).alloc (.cells #[.func (.func 246) #[] #[.pointer (some ⟨w.heap.size + 1, 0, none⟩)], .func (.func 247) #[] #[.pointer (some ⟨w.heap.size + 1, 0, none⟩)], .func (.func 248) #[] #[.pointer (some ⟨w.heap.size + 1 + 1, 0, none⟩), .pointer (some ⟨w.heap.size, 0, none⟩)]] 322)) X) => cell_keep d1 hX)
  have R0 := Lib.hid (fun X (hX : Keeps ((((w.alloc (.cells #[.slice (some ⟨bf, 0, none⟩) 2 2] 83)).alloc (.cells #[.func (.func 203) #[] #[.pointer (some ⟨NB, 0, none⟩)]] 207)).alloc (.cells #[.func (.func 205) #[] #[.pointer (some ⟨NB, 0, none⟩)]] 293)).alloc (.cells #[.func (.func 246) #[] #[.pointer (some ⟨w.heap.size + 1, 0, none⟩)], .func (.func 247) #[] #[.pointer (some ⟨w.heap.size + 1, 0, none⟩)], .func (.func 248) #[] #[.pointer (some ⟨w.heap.size + 1 + 1, 0, none⟩), .pointer (some ⟨w.heap.size, 0, none⟩)]] 322)) X) => rule246_0 (w.heap.size + 1) NB bw bc bn bo bf bl bk X (hN.below (k4.trans hX) hN.lt) (h.keep (k4.trans hX)) (hk.keep (k4.trans hX)) (cell_keep d2 hX))
  have T0 := Lib.hid (fun X (hX : Keeps ((((w.alloc (.cells #[.slice (some ⟨bf, 0, none⟩) 2 2] 83)).alloc (.cells #[.func (.func 203) #[] #[.pointer (some ⟨NB, 0, none⟩)]] 207)).alloc (.cells #[.func (.func 205) #[] #[.pointer (some ⟨NB, 0, none⟩)]] 293)).alloc (.cells #[.func (.func 246) #[] #[.pointer (some ⟨w.heap.size + 1, 0, none⟩)], .func (.func 247) #[] #[.pointer (some ⟨w.heap.size + 1, 0, none⟩)], .func (.func 248) #[] #[.pointer (some ⟨w.heap.size + 1 + 1, 0, none⟩), .pointer (some ⟨w.heap.size, 0, none⟩)]] 322)) X) => twice247_0 (w.heap.size + 1) NB bw bc bn bo bf bl bk X (hN.below (k4.trans hX) hN.lt) (h.keep (k4.trans hX)) (cell_keep d2 hX))
  have G0 := Lib.hid (fun X (hX : Keeps ((((w.alloc (.cells #[.slice (some ⟨bf, 0, none⟩) 2 2] 83)).alloc (.cells #[.func (.func 203) #[] #[.pointer (some ⟨NB, 0, none⟩)]] 207)).alloc (.cells #[.func (.func 205) #[] #[.pointer (some ⟨NB, 0, none⟩)]] 293)).alloc (.cells #[.func (.func 246) #[] #[.pointer (some ⟨w.heap.size + 1, 0, none⟩)], .func (.func 247) #[] #[.pointer (some ⟨w.heap.size + 1, 0, none⟩)], .func (.func 248) #[] #[.pointer (some ⟨w.heap.size + 1 + 1, 0, none⟩), .pointer (some ⟨w.heap.size, 0, none⟩)]] 322)) X) => good248_0 (w.heap.size + 1 + 1) w.heap.size NB bw bc bn bo bf bl bk X (hN.below (k4.trans hX) hN.lt) (h.keep (k4.trans hX)) (cell_keep d3 hX) (cell_keep d1 hX))
  have R1 := Lib.hid (fun X (hX : Keeps ((((w.alloc (.cells #[.slice (some ⟨bf, 0, none⟩) 2 2] 83)).alloc (.cells #[.func (.func 203) #[] #[.pointer (some ⟨NB, 0, none⟩)]] 207)).alloc (.cells #[.func (.func 205) #[] #[.pointer (some ⟨NB, 0, none⟩)]] 293)).alloc (.cells #[.func (.func 246) #[] #[.pointer (some ⟨w.heap.size + 1, 0, none⟩)], .func (.func 247) #[] #[.pointer (some ⟨w.heap.size + 1, 0, none⟩)], .func (.func 248) #[] #[.pointer (some ⟨w.heap.size + 1 + 1, 0, none⟩), .pointer (some ⟨w.heap.size, 0, none⟩)]] 322)) X) => rule246_1 (w.heap.size + 1) NB bw bc bn bo bf bl bk X (hN.below (k4.trans hX) hN.lt) (h.keep (k4.trans hX)) (hk.keep (k4.trans hX)) (cell_keep d2 hX))
  have T1 := Lib.hid (fun X (hX : Keeps ((((w.alloc (.cells #[.slice (some ⟨bf, 0, none⟩) 2 2] 83)).alloc (.cells #[.func (.func 203) #[] #[.pointer (some ⟨NB, 0, none⟩)]] 207)).alloc (.cells #[.func (.func 205) #[] #[.pointer (some ⟨NB, 0, none⟩)]] 293)).alloc (.cells #[.func (.func 246) #[] #[.pointer (some ⟨w.heap.size + 1, 0, none⟩)], .func (.func 247) #[] #[.pointer (some ⟨w.heap.size + 1, 0, none⟩)], .func (.func 248) #[] #[.pointer (some ⟨w.heap.size + 1 + 1, 0, none⟩), .pointer (some ⟨w.heap.size, 0, none⟩)]] 322)) X) => twice247_1 (w.heap.size + 1) NB bw bc bn bo bf bl bk X (hN.below (k4.trans hX) hN.lt) (h.keep (k4.trans hX)) (cell_keep d2 hX))
  have G1 := Lib.hid (fun X (hX : Keeps ((((w.alloc (.cells #[.slice (some ⟨bf, 0, none⟩) 2 2] 83)).alloc (.cells #[.func (.func 203) #[] #[.pointer (some ⟨NB, 0, none⟩)]] 207)).alloc (.cells #[.func (.func 205) #[] #[.pointer (some ⟨NB, 0, none⟩)]] 293)).alloc (.cells #[.func (.func 246) #[] #[.pointer (some ⟨w.heap.size + 1, 0, none⟩)], .func (.func 247) #[] #[.pointer (some ⟨w.heap.size + 1, 0, none⟩)], .func (.func 248) #[] #[.pointer (some ⟨w.heap.size + 1 + 1, 0, none⟩), .pointer (some ⟨w.heap.size, 0, none⟩)]] 322)) X) => good248_1 (w.heap.size + 1 + 1) w.heap.size NB bw bc bn bo bf bl bk X (hN.below (k4.trans hX) hN.lt) (h.keep (k4.trans hX)) (cell_keep d3 hX) (cell_keep d1 hX))
  have KW := Lib.hid k4
  have KK := Lib.hid (Keeps.refl ((((w.alloc (.cells #[.slice (some ⟨bf, 0, none⟩) 2 2] 83)).alloc (.cells #[.func (.func 203) #[] #[.pointer (some ⟨NB, 0, none⟩)]] 207)).alloc (.cells #[.func (.func 205) #[] #[.pointer (some ⟨NB, 0, none⟩)]] 293)).alloc (.cells #[.func (.func 246) #[] #[.pointer (some ⟨w.heap.size + 1, 0, none⟩)], .func (.func 247) #[] #[.pointer (some ⟨w.heap.size + 1, 0, none⟩)], .func (.func 248) #[] #[.pointer (some ⟨w.heap.size + 1 + 1, 0, none⟩), .pointer (some ⟨w.heap.size, 0, none⟩)]] 322)))
  have i0 := idx322_0 (.func 246) (.func 247) (.func 248) #[] #[] #[] #[.pointer (some ⟨w.heap.size + 1, 0, none⟩)] #[.pointer (some ⟨w.heap.size + 1, 0, none⟩)] #[.pointer (some ⟨w.heap.size + 1 + 1, 0, none⟩), .pointer (some ⟨w.heap.size, 0, none⟩)]
  have i1 := idx322_1 (.func 246) (.func 247) (.func 248) #[] #[] #[] #[.pointer (some ⟨w.heap.size + 1, 0, none⟩)] #[.pointer (some ⟨w.heap.size + 1, 0, none⟩)] #[.pointer (some ⟨w.heap.size + 1 + 1, 0, none⟩), .pointer (some ⟨w.heap.size, 0, none⟩)]
  have i2 := idx322_2 (.func 246) (.func 247) (.func 248) #[] #[] #[] #[.pointer (some ⟨w.heap.size + 1, 0, none⟩)] #[.pointer (some ⟨w.heap.size + 1, 0, none⟩)] #[.pointer (some ⟨w.heap.size + 1 + 1, 0, none⟩), .pointer (some ⟨w.heap.size, 0, none⟩)]
  clear hB1 hB2 hB3 hB4 d1 d2 d3 k4 hN h hk
  go_enter Tryz.func204, Tryz.ntmps204
  go_wp2_with fail
  refine wp_loop_rounds 3 ?_
  rw [rounds_succ]
  go_wp2_with fail
  refine wp_loop_rounds 4 ?_
  rw [rounds_succ]
  go_wp2_with (first | (go_at_call 246; (with_reducible refine (R0.out _ KK.out).mono ?_); rintro e wz ⟨rfl, hkk⟩; have KK2 := Lib.hid (KK.out.trans hkk); clear KK hkk; have KK := Lib.hid KK2.out; clear KK2) | (go_at_call 247; (with_reducible refine (T0.out _ KK.out).mono ?_); rintro e wz ⟨rfl, hkk⟩; have KK2 := Lib.hid (KK.out.trans hkk); clear KK hkk; have KK := Lib.hid KK2.out; clear KK2) | (go_at_call 248; (with_reducible refine (G0.out _ KK.out).mono ?_); rintro e wz ⟨rfl, hkk⟩; have KK2 := Lib.hid (KK.out.trans hkk); clear KK hkk; have KK := Lib.hid KK2.out; clear KK2))
  rw [rounds_succ]
  go_wp2_with (first | (go_at_call 246; (with_reducible refine (R0.out _ KK.out).mono ?_); rintro e wz ⟨rfl, hkk⟩; have KK2 := Lib.hid (KK.out.trans hkk); clear KK hkk; have KK := Lib.hid KK2.out; clear KK2) | (go_at_call 247; (with_reducible refine (T0.out _ KK.out).mono ?_); rintro e wz ⟨rfl, hkk⟩; have KK2 := Lib.hid (KK.out.trans hkk); clear KK hkk; have KK := Lib.hid KK2.out; clear KK2) | (go_at_call 248; (with_reducible refine (G0.out _ KK.out).mono ?_); rintro e wz ⟨rfl, hkk⟩; have KK2 := Lib.hid (KK.out.trans hkk); clear KK hkk; have KK := Lib.hid KK2.out; clear KK2))
  rw [rounds_succ]
  go_wp2_with (first | (go_at_call 246; (with_reducible refine (R0.out _ KK.out).mono ?_); rintro e wz ⟨rfl, hkk⟩; have KK2 := Lib.hid (KK.out.trans hkk); clear KK hkk; have KK := Lib.hid KK2.out; clear KK2) | (go_at_call 247; (with_reducible refine (T0.out _ KK.out).mono ?_); rintro e wz ⟨rfl, hkk⟩; have KK2 := Lib.hid (KK.out.trans hkk); clear KK hkk; have KK := Lib.hid KK2.out; clear KK2) | (go_at_call 248; (with_reducible refine (G0.out _ KK.out).mono ?_); rintro e wz ⟨rfl, hkk⟩; have KK2 := Lib.hid (KK.out.trans hkk); clear KK hkk; have KK := Lib.hid KK2.out; clear KK2))
  rw [rounds_succ]
  go_wp2_with (first | (go_at_call 246; (with_reducible refine (R0.out _ KK.out).mono ?_); rintro e wz ⟨rfl, hkk⟩; have KK2 := Lib.hid (KK.out.trans hkk); clear KK hkk; have KK := Lib.hid KK2.out; clear KK2) | (go_at_call 247; (with_reducible refine (T0.out _ KK.out).mono ?_); rintro e wz ⟨rfl, hkk⟩; have KK2 := Lib.hid (KK.out.trans hkk); clear KK hkk; have KK := Lib.hid KK2.out; clear KK2) | (go_at_call 248; (with_reducible refine (G0.out _ KK.out).mono ?_); rintro e wz ⟨rfl, hkk⟩; have KK2 := Lib.hid (KK.out.trans hkk); clear KK hkk; have KK := Lib.hid KK2.out; clear KK2))
  obtain ⟨a0, a1, a2⟩ := AC.out _ KK.out
  rw [rounds_succ]
  go_wp2_with fail
  refine wp_loop_rounds 4 ?_
  rw [rounds_succ]
  go_wp2_with (first | (go_at_call 246; (with_reducible refine (R1.out _ KK.out).mono ?_); rintro e wz ⟨rfl, hkk⟩; have KK2 := Lib.hid (KK.out.trans hkk); clear KK hkk; have KK := Lib.hid KK2.out; clear KK2) | (go_at_call 247; (with_reducible refine (T1.out _ KK.out).mono ?_); rintro e wz ⟨rfl, hkk⟩; have KK2 := Lib.hid (KK.out.trans hkk); clear KK hkk; have KK := Lib.hid KK2.out; clear KK2) | (go_at_call 248; (with_reducible refine (G1.out _ KK.out).mono ?_); rintro e wz ⟨rfl, hkk⟩; have KK2 := Lib.hid (KK.out.trans hkk); clear KK hkk; have KK := Lib.hid KK2.out; clear KK2))
  rw [rounds_succ]
  go_wp2_with (first | (go_at_call 246; (with_reducible refine (R1.out _ KK.out).mono ?_); rintro e wz ⟨rfl, hkk⟩; have KK2 := Lib.hid (KK.out.trans hkk); clear KK hkk; have KK := Lib.hid KK2.out; clear KK2) | (go_at_call 247; (with_reducible refine (T1.out _ KK.out).mono ?_); rintro e wz ⟨rfl, hkk⟩; have KK2 := Lib.hid (KK.out.trans hkk); clear KK hkk; have KK := Lib.hid KK2.out; clear KK2) | (go_at_call 248; (with_reducible refine (G1.out _ KK.out).mono ?_); rintro e wz ⟨rfl, hkk⟩; have KK2 := Lib.hid (KK.out.trans hkk); clear KK hkk; have KK := Lib.hid KK2.out; clear KK2))
  rw [rounds_succ]
  go_wp2_with (first | (go_at_call 246; (with_reducible refine (R1.out _ KK.out).mono ?_); rintro e wz ⟨rfl, hkk⟩; have KK2 := Lib.hid (KK.out.trans hkk); clear KK hkk; have KK := Lib.hid KK2.out; clear KK2) | (go_at_call 247; (with_reducible refine (T1.out _ KK.out).mono ?_); rintro e wz ⟨rfl, hkk⟩; have KK2 := Lib.hid (KK.out.trans hkk); clear KK hkk; have KK := Lib.hid KK2.out; clear KK2) | (go_at_call 248; (with_reducible refine (G1.out _ KK.out).mono ?_); rintro e wz ⟨rfl, hkk⟩; have KK2 := Lib.hid (KK.out.trans hkk); clear KK hkk; have KK := Lib.hid KK2.out; clear KK2))
  rw [rounds_succ]
  go_wp2_with (first | (go_at_call 246; (with_reducible refine (R1.out _ KK.out).mono ?_); rintro e wz ⟨rfl, hkk⟩; have KK2 := Lib.hid (KK.out.trans hkk); clear KK hkk; have KK := Lib.hid KK2.out; clear KK2) | (go_at_call 247; (with_reducible refine (T1.out _ KK.out).mono ?_); rintro e wz ⟨rfl, hkk⟩; have KK2 := Lib.hid (KK.out.trans hkk); clear KK hkk; have KK := Lib.hid KK2.out; clear KK2) | (go_at_call 248; (with_reducible refine (G1.out _ KK.out).mono ?_); rintro e wz ⟨rfl, hkk⟩; have KK2 := Lib.hid (KK.out.trans hkk); clear KK hkk; have KK := Lib.hid KK2.out; clear KK2))
  have sc := SC.out _ KK.out
  rw [rounds_succ]
  go_wp2_with fail
  go_ret
  exact ⟨rfl, KW.out.trans KK.out⟩
set_option maxRecDepth 100000 in
set_option maxHeartbeats 8000000 in
theorem rule253_0 (FB NB bw bc bn bo bf bl bk : Nat) (w : World) (hN : Blk w NB 87 (netC bc bn bo bf bl bk)) (h : Net w bw bc bn bo bf bl bk) (hk : Kw w) (hf : w.cell? ⟨FB, 0, none⟩ = some (.func (.func 207) #[] #[.pointer (some ⟨NB, 0, none⟩)])) : Calls Tryz.prog 253 #[.int .i64 0, .pointer (some ⟨FB, 0, none⟩)] w fun e w' => e = .returned (.int .i64 0) ∧ Keeps w w' := by
  have H1 := Lib.hid (name207_0 NB bw bc bn bo bf bl bk w hN h)
  have H2 := Lib.hid (isName240 108 w hk (by decide))
  clear hN h hk
  go_enter Tryz.func253, Tryz.ntmps253
  go_wp2_with (first | (go_at_call 207; (with_reducible refine H1.out.mono ?_); rintro e w1 ⟨rfl, rfl⟩) | (go_at_call 240; (with_reducible refine H2.out.mono ?_); rintro e w1 ⟨rfl, hkk⟩; have K := Lib.hid hkk; clear hkk))
  go_ret
  exact ⟨rfl, K.out⟩
set_option maxRecDepth 100000 in
set_option maxHeartbeats 8000000 in
theorem rule253_1 (FB NB bw bc bn bo bf bl bk : Nat) (w : World) (hN : Blk w NB 87 (netC bc bn bo bf bl bk)) (h : Net w bw bc bn bo bf bl bk) (hk : Kw w) (hf : w.cell? ⟨FB, 0, none⟩ = some (.func (.func 207) #[] #[.pointer (some ⟨NB, 0, none⟩)])) : Calls Tryz.prog 253 #[.int .i64 1, .pointer (some ⟨FB, 0, none⟩)] w fun e w' => e = .returned (.int .i64 0) ∧ Keeps w w' := by
  have H1 := Lib.hid (name207_1 NB bw bc bn bo bf bl bk w hN h)
  have H2 := Lib.hid (isName240 109 w hk (by decide))
  clear hN h hk
  go_enter Tryz.func253, Tryz.ntmps253
  go_wp2_with (first | (go_at_call 207; (with_reducible refine H1.out.mono ?_); rintro e w1 ⟨rfl, rfl⟩) | (go_at_call 240; (with_reducible refine H2.out.mono ?_); rintro e w1 ⟨rfl, hkk⟩; have K := Lib.hid hkk; clear hkk))
  go_ret
  exact ⟨rfl, K.out⟩
set_option maxRecDepth 100000 in
set_option maxHeartbeats 8000000 in
theorem twice254_0 (FB NB bw bc bn bo bf bl bk : Nat) (w : World) (hN : Blk w NB 87 (netC bc bn bo bf bl bk)) (h : Net w bw bc bn bo bf bl bk) (hf : w.cell? ⟨FB, 0, none⟩ = some (.func (.func 207) #[] #[.pointer (some ⟨NB, 0, none⟩)])) : Calls Tryz.prog 254 #[.int .i64 0, .pointer (some ⟨FB, 0, none⟩)] w fun e w' => e = .returned (.int .i64 0) ∧ Keeps w w' := by
  clear hN h
  have K := Lib.hid (Keeps.refl w)
  go_enter Tryz.func254, Tryz.ntmps254
  go_wp2_with fail
  refine wp_loop_rounds 1 ?_
  rw [rounds_succ]
  go_wp2_with fail
  go_ret
  exact ⟨rfl, K.out⟩
set_option maxRecDepth 100000 in
set_option maxHeartbeats 8000000 in
theorem twice254_1 (FB NB bw bc bn bo bf bl bk : Nat) (w : World) (hN : Blk w NB 87 (netC bc bn bo bf bl bk)) (h : Net w bw bc bn bo bf bl bk) (hf : w.cell? ⟨FB, 0, none⟩ = some (.func (.func 207) #[] #[.pointer (some ⟨NB, 0, none⟩)])) : Calls Tryz.prog 254 #[.int .i64 1, .pointer (some ⟨FB, 0, none⟩)] w fun e w' => e = .returned (.int .i64 0) ∧ Keeps w w' := by
  have H0 := Lib.hid (fun X (hX : Keeps w X) => name207_0 NB bw bc bn bo bf bl bk X (hN.below hX hN.lt) (h.keep hX))
  have H1 := Lib.hid (fun X (hX : Keeps w X) => name207_1 NB bw bc bn bo bf bl bk X (hN.below hX hN.lt) (h.keep hX))
  clear hN h
  have K := Lib.hid (Keeps.refl w)
  go_enter Tryz.func254, Tryz.ntmps254
  go_wp2_with fail
  refine wp_loop_rounds 2 ?_
  rw [rounds_succ]
  go_wp2_with fail
  go_quiet ((first | (go_at_call 207; exact Calls.quiet_of_same (H0.out _ (K.out.drewN _))) | (go_at_call 207; exact Calls.quiet_of_same (H1.out _ (K.out.drewN _)))))
  go_wp2_with fail
  rw [rounds_succ]
  go_wp2_with fail
  go_ret
  exact ⟨rfl, K.out.drewN _⟩
set_option maxRecDepth 100000 in
set_option maxHeartbeats 8000000 in
theorem good255_0 (GB TB NB bw bc bn bo bf bl bk : Nat) (w : World) (hN : Blk w NB 87 (netC bc bn bo bf bl bk)) (h : Net w bw bc bn bo bf bl bk) (hf : w.cell? ⟨GB, 0, none⟩ = some (.func (.func 209) #[] #[.pointer (some ⟨NB, 0, none⟩)])) (ht : w.cell? ⟨TB, 0, none⟩ = some (.slice (some ⟨bl, 0, none⟩) 2 2)) : Calls Tryz.prog 255 #[.int .i64 0, .pointer (some ⟨GB, 0, none⟩), .pointer (some ⟨TB, 0, none⟩)] w fun e w' => e = .returned (.int .i64 0) ∧ Keeps w w' := by
  have c0 := h.li.cell 0
  have c1 := h.li.cell 1
  have c2 := h.li.cell 2
  have c3 := h.li.cell 3
  have c4 := h.li.cell 4
  have c5 := h.li.cell 5
  have H1 := Lib.hid (show ∀ X, Keeps w X → Calls Tryz.prog 209 #[.agg #[.string ⟨#[108]⟩, .int .i64 0, .int .i64 1, .int .i64 480, .int .i64 120, .int .i64 1], .pointer (some ⟨NB, 0, none⟩)] X (BoolPost true X) from fun X hX => line209 NB bc bn bo bf bl bk ⟨#[108]⟩ 0 1 480 120 1 X (hN.below hX hN.lt) (by decide) (by decide) (by decide) (by decide) (by decide) (by decide))
  clear hN h
  have K := Lib.hid ((Keeps.refl w).drew)
  go_enter Tryz.func255, Tryz.ntmps255
  go_wp2_with fail
  go_region_with (go_at_call 209; (with_reducible refine (H1.out _ K.out).mono ?_); rintro e w1 ⟨rfl, hkk⟩; have K2 := Lib.hid (K.out.trans hkk); clear hkk)
  all_goals (go_wp2_with fail; go_ret; exact ⟨rfl, K2.out⟩)
set_option maxRecDepth 100000 in
set_option maxHeartbeats 8000000 in
theorem good255_1 (GB TB NB bw bc bn bo bf bl bk : Nat) (w : World) (hN : Blk w NB 87 (netC bc bn bo bf bl bk)) (h : Net w bw bc bn bo bf bl bk) (hf : w.cell? ⟨GB, 0, none⟩ = some (.func (.func 209) #[] #[.pointer (some ⟨NB, 0, none⟩)])) (ht : w.cell? ⟨TB, 0, none⟩ = some (.slice (some ⟨bl, 0, none⟩) 2 2)) : Calls Tryz.prog 255 #[.int .i64 1, .pointer (some ⟨GB, 0, none⟩), .pointer (some ⟨TB, 0, none⟩)] w fun e w' => e = .returned (.int .i64 0) ∧ Keeps w w' := by
  have c0 := h.li.cell 6
  have c1 := h.li.cell 7
  have c2 := h.li.cell 8
  have c3 := h.li.cell 9
  have c4 := h.li.cell 10
  have c5 := h.li.cell 11
  have H1 := Lib.hid (show ∀ X, Keeps w X → Calls Tryz.prog 209 #[.agg #[.string ⟨#[109]⟩, .int .i64 1, .int .i64 0, .int .i64 600, .int .i64 60, .int .i64 1], .pointer (some ⟨NB, 0, none⟩)] X (BoolPost true X) from fun X hX => line209 NB bc bn bo bf bl bk ⟨#[109]⟩ 1 0 600 60 1 X (hN.below hX hN.lt) (by decide) (by decide) (by decide) (by decide) (by decide) (by decide))
  clear hN h
  have K := Lib.hid ((Keeps.refl w).drew)
  go_enter Tryz.func255, Tryz.ntmps255
  go_wp2_with fail
  go_region_with (go_at_call 209; (with_reducible refine (H1.out _ K.out).mono ?_); rintro e w1 ⟨rfl, hkk⟩; have K2 := Lib.hid (K.out.trans hkk); clear hkk)
  all_goals (go_wp2_with fail; go_ret; exact ⟨rfl, K2.out⟩)
set_option maxRecDepth 100000 in
set_option maxHeartbeats 8000000 in
theorem check208 (NB bw bc bn bo bf bl bk : Nat) (w : World) (hN : Blk w NB 87 (netC bc bn bo bf bl bk)) (h : Net w bw bc bn bo bf bl bk) (hk : Kw w) : Calls Tryz.prog 208 #[.int .i64 4, .int .i64 40, .slice (some ⟨bl, 0, none⟩) 2 2, .func (.func 207) #[] #[.pointer (some ⟨NB, 0, none⟩)], .func (.func 209) #[] #[.pointer (some ⟨NB, 0, none⟩)]] w fun e w' => e = .returned (.slice none 0 0) ∧ Keeps w w' := by
  have k4 := ((((Keeps.refl w).alloc (.cells #[.slice (some ⟨bl, 0, none⟩) 2 2] 84)).alloc (.cells #[.func (.func 207) #[] #[.pointer (some ⟨NB, 0, none⟩)]] 207)).alloc (.cells #[.func (.func 209) #[] #[.pointer (some ⟨NB, 0, none⟩)]] 296)).alloc (.cells #[.func (.func 253) #[] #[.pointer (some ⟨w.heap.size + 1, 0, none⟩)], .func (.func 254) #[] #[.pointer (some ⟨w.heap.size + 1, 0, none⟩)], .func (.func 255) #[] #[.pointer (some ⟨w.heap.size + 1 + 1, 0, none⟩), .pointer (some ⟨w.heap.size, 0, none⟩)]] 322)
  have hB1 := (((Blk.new w 84 #[.slice (some ⟨bl, 0, none⟩) 2 2]).alloc (.cells #[.func (.func 207) #[] #[.pointer (some ⟨NB, 0, none⟩)]] 207)).alloc (.cells #[.func (.func 209) #[] #[.pointer (some ⟨NB, 0, none⟩)]] 296)).alloc (.cells #[.func (.func 253) #[] #[.pointer (some ⟨w.heap.size + 1, 0, none⟩)], .func (.func 254) #[] #[.pointer (some ⟨w.heap.size + 1, 0, none⟩)], .func (.func 255) #[] #[.pointer (some ⟨w.heap.size + 1 + 1, 0, none⟩), .pointer (some ⟨w.heap.size, 0, none⟩)]] 322)
  have hB2 := ((Blk.new (w.alloc (.cells #[.slice (some ⟨bl, 0, none⟩) 2 2] 84)) 207 #[.func (.func 207) #[] #[.pointer (some ⟨NB, 0, none⟩)]]).alloc (.cells #[.func (.func 209) #[] #[.pointer (some ⟨NB, 0, none⟩)]] 296)).alloc (.cells #[.func (.func 253) #[] #[.pointer (some ⟨w.heap.size + 1, 0, none⟩)], .func (.func 254) #[] #[.pointer (some ⟨w.heap.size + 1, 0, none⟩)], .func (.func 255) #[] #[.pointer (some ⟨w.heap.size + 1 + 1, 0, none⟩), .pointer (some ⟨w.heap.size, 0, none⟩)]] 322)
  have hB3 := (Blk.new ((w.alloc (.cells #[.slice (some ⟨bl, 0, none⟩) 2 2] 84)).alloc (.cells #[.func (.func 207) #[] #[.pointer (some ⟨NB, 0, none⟩)]] 207)) 296 #[.func (.func 209) #[] #[.pointer (some ⟨NB, 0, none⟩)]]).alloc (.cells #[.func (.func 253) #[] #[.pointer (some ⟨w.heap.size + 1, 0, none⟩)], .func (.func 254) #[] #[.pointer (some ⟨w.heap.size + 1, 0, none⟩)], .func (.func 255) #[] #[.pointer (some ⟨w.heap.size + 1 + 1, 0, none⟩), .pointer (some ⟨w.heap.size, 0, none⟩)]] 322)
  have hB4 := Blk.new (((w.alloc (.cells #[.slice (some ⟨bl, 0, none⟩) 2 2] 84)).alloc (.cells #[.func (.func 207) #[] #[.pointer (some ⟨NB, 0, none⟩)]] 207)).alloc (.cells #[.func (.func 209) #[] #[.pointer (some ⟨NB, 0, none⟩)]] 296)) 322 #[.func (.func 253) #[] #[.pointer (some ⟨w.heap.size + 1, 0, none⟩)], .func (.func 254) #[] #[.pointer (some ⟨w.heap.size + 1, 0, none⟩)], .func (.func 255) #[] #[.pointer (some ⟨w.heap.size + 1 + 1, 0, none⟩), .pointer (some ⟨w.heap.size, 0, none⟩)]]
  rw [World.size_alloc] at hB2
  rw [World.size_alloc, World.size_alloc] at hB3
  rw [World.size_alloc, World.size_alloc, World.size_alloc] at hB4
  have d1 := hB1.cell 0
  have d2 := hB2.cell 0
  have d3 := hB3.cell 0
  have AC := Lib.hid (fun X (hX : Keeps ((((w.alloc (.cells #[.slice (some ⟨bl, 0, none⟩) 2 2] 84)).alloc (.cells #[.func (.func 207) #[] #[.pointer (some ⟨NB, 0, none⟩)]] 207)).alloc (.cells #[.func (.func 209) #[] #[.pointer (some ⟨NB, 0, none⟩)]] 296)).alloc (.cells #[.func (.func 253) #[] #[.pointer (some ⟨w.heap.size + 1, 0, none⟩)], .func (.func 254) #[] #[.pointer (some ⟨w.heap.size + 1, 0, none⟩)], .func (.func 255) #[] #[.pointer (some ⟨w.heap.size + 1 + 1, 0, none⟩), .pointer (some ⟨w.heap.size, 0, none⟩)]] 322)) X) => (⟨cell_keep (hB4.cell 0) hX, cell_keep (hB4.cell 1) hX, cell_keep (hB4.cell 2) hX⟩ : _ ∧ _ ∧ _))
  have SC := Lib.hid (fun X (hX : Keeps ((((w.alloc (.cells #[.slice (some ⟨bl, 0, none⟩) 2 2] 84)).alloc (.cells #[.func (.func 207) #[] #[.pointer (some ⟨NB, 0, none⟩)]] 207)).alloc (.cells #[.func (.func 209) #[] #[.pointer (some ⟨NB, 0, none⟩)]] 296)).alloc (.cells #[.func (.func 253) #[] #[.pointer (some ⟨w.heap.size + 1, 0, none⟩)], .func (.func 254) #[] #[.pointer (some ⟨w.heap.size + 1, 0, none⟩)], .func (.func 255) #[] #[.pointer (some ⟨w.heap.size + 1 + 1, 0, none⟩), .pointer (some ⟨w.heap.size, 0, none⟩)]] 322)) X) => cell_keep d1 hX)
  have R0 := Lib.hid (fun X (hX : Keeps ((((w.alloc (.cells #[.slice (some ⟨bl, 0, none⟩) 2 2] 84)).alloc (.cells #[.func (.func 207) #[] #[.pointer (some ⟨NB, 0, none⟩)]] 207)).alloc (.cells #[.func (.func 209) #[] #[.pointer (some ⟨NB, 0, none⟩)]] 296)).alloc (.cells #[.func (.func 253) #[] #[.pointer (some ⟨w.heap.size + 1, 0, none⟩)], .func (.func 254) #[] #[.pointer (some ⟨w.heap.size + 1, 0, none⟩)], .func (.func 255) #[] #[.pointer (some ⟨w.heap.size + 1 + 1, 0, none⟩), .pointer (some ⟨w.heap.size, 0, none⟩)]] 322)) X) => rule253_0 (w.heap.size + 1) NB bw bc bn bo bf bl bk X (hN.below (k4.trans hX) hN.lt) (h.keep (k4.trans hX)) (hk.keep (k4.trans hX)) (cell_keep d2 hX))
  have T0 := Lib.hid (fun X (hX : Keeps ((((w.alloc (.cells #[.slice (some ⟨bl, 0, none⟩) 2 2] 84)).alloc (.cells #[.func (.func 207) #[] #[.pointer (some ⟨NB, 0, none⟩)]] 207)).alloc (.cells #[.func (.func 209) #[] #[.pointer (some ⟨NB, 0, none⟩)]] 296)).alloc (.cells #[.func (.func 253) #[] #[.pointer (some ⟨w.heap.size + 1, 0, none⟩)], .func (.func 254) #[] #[.pointer (some ⟨w.heap.size + 1, 0, none⟩)], .func (.func 255) #[] #[.pointer (some ⟨w.heap.size + 1 + 1, 0, none⟩), .pointer (some ⟨w.heap.size, 0, none⟩)]] 322)) X) => twice254_0 (w.heap.size + 1) NB bw bc bn bo bf bl bk X (hN.below (k4.trans hX) hN.lt) (h.keep (k4.trans hX)) (cell_keep d2 hX))
  have G0 := Lib.hid (fun X (hX : Keeps ((((w.alloc (.cells #[.slice (some ⟨bl, 0, none⟩) 2 2] 84)).alloc (.cells #[.func (.func 207) #[] #[.pointer (some ⟨NB, 0, none⟩)]] 207)).alloc (.cells #[.func (.func 209) #[] #[.pointer (some ⟨NB, 0, none⟩)]] 296)).alloc (.cells #[.func (.func 253) #[] #[.pointer (some ⟨w.heap.size + 1, 0, none⟩)], .func (.func 254) #[] #[.pointer (some ⟨w.heap.size + 1, 0, none⟩)], .func (.func 255) #[] #[.pointer (some ⟨w.heap.size + 1 + 1, 0, none⟩), .pointer (some ⟨w.heap.size, 0, none⟩)]] 322)) X) => good255_0 (w.heap.size + 1 + 1) w.heap.size NB bw bc bn bo bf bl bk X (hN.below (k4.trans hX) hN.lt) (h.keep (k4.trans hX)) (cell_keep d3 hX) (cell_keep d1 hX))
  have R1 := Lib.hid (fun X (hX : Keeps ((((w.alloc (.cells #[.slice (some ⟨bl, 0, none⟩) 2 2] 84)).alloc (.cells #[.func (.func 207) #[] #[.pointer (some ⟨NB, 0, none⟩)]] 207)).alloc (.cells #[.func (.func 209) #[] #[.pointer (some ⟨NB, 0, none⟩)]] 296)).alloc (.cells #[.func (.func 253) #[] #[.pointer (some ⟨w.heap.size + 1, 0, none⟩)], .func (.func 254) #[] #[.pointer (some ⟨w.heap.size + 1, 0, none⟩)], .func (.func 255) #[] #[.pointer (some ⟨w.heap.size + 1 + 1, 0, none⟩), .pointer (some ⟨w.heap.size, 0, none⟩)]] 322)) X) => rule253_1 (w.heap.size + 1) NB bw bc bn bo bf bl bk X (hN.below (k4.trans hX) hN.lt) (h.keep (k4.trans hX)) (hk.keep (k4.trans hX)) (cell_keep d2 hX))
  have T1 := Lib.hid (fun X (hX : Keeps ((((w.alloc (.cells #[.slice (some ⟨bl, 0, none⟩) 2 2] 84)).alloc (.cells #[.func (.func 207) #[] #[.pointer (some ⟨NB, 0, none⟩)]] 207)).alloc (.cells #[.func (.func 209) #[] #[.pointer (some ⟨NB, 0, none⟩)]] 296)).alloc (.cells #[.func (.func 253) #[] #[.pointer (some ⟨w.heap.size + 1, 0, none⟩)], .func (.func 254) #[] #[.pointer (some ⟨w.heap.size + 1, 0, none⟩)], .func (.func 255) #[] #[.pointer (some ⟨w.heap.size + 1 + 1, 0, none⟩), .pointer (some ⟨w.heap.size, 0, none⟩)]] 322)) X) => twice254_1 (w.heap.size + 1) NB bw bc bn bo bf bl bk X (hN.below (k4.trans hX) hN.lt) (h.keep (k4.trans hX)) (cell_keep d2 hX))
  have G1 := Lib.hid (fun X (hX : Keeps ((((w.alloc (.cells #[.slice (some ⟨bl, 0, none⟩) 2 2] 84)).alloc (.cells #[.func (.func 207) #[] #[.pointer (some ⟨NB, 0, none⟩)]] 207)).alloc (.cells #[.func (.func 209) #[] #[.pointer (some ⟨NB, 0, none⟩)]] 296)).alloc (.cells #[.func (.func 253) #[] #[.pointer (some ⟨w.heap.size + 1, 0, none⟩)], .func (.func 254) #[] #[.pointer (some ⟨w.heap.size + 1, 0, none⟩)], .func (.func 255) #[] #[.pointer (some ⟨w.heap.size + 1 + 1, 0, none⟩), .pointer (some ⟨w.heap.size, 0, none⟩)]] 322)) X) => good255_1 (w.heap.size + 1 + 1) w.heap.size NB bw bc bn bo bf bl bk X (hN.below (k4.trans hX) hN.lt) (h.keep (k4.trans hX)) (cell_keep d3 hX) (cell_keep d1 hX))
  have KW := Lib.hid k4
  have KK := Lib.hid (Keeps.refl ((((w.alloc (.cells #[.slice (some ⟨bl, 0, none⟩) 2 2] 84)).alloc (.cells #[.func (.func 207) #[] #[.pointer (some ⟨NB, 0, none⟩)]] 207)).alloc (.cells #[.func (.func 209) #[] #[.pointer (some ⟨NB, 0, none⟩)]] 296)).alloc (.cells #[.func (.func 253) #[] #[.pointer (some ⟨w.heap.size + 1, 0, none⟩)], .func (.func 254) #[] #[.pointer (some ⟨w.heap.size + 1, 0, none⟩)], .func (.func 255) #[] #[.pointer (some ⟨w.heap.size + 1 + 1, 0, none⟩), .pointer (some ⟨w.heap.size, 0, none⟩)]] 322)))
  have i0 := idx322_0 (.func 253) (.func 254) (.func 255) #[] #[] #[] #[.pointer (some ⟨w.heap.size + 1, 0, none⟩)] #[.pointer (some ⟨w.heap.size + 1, 0, none⟩)] #[.pointer (some ⟨w.heap.size + 1 + 1, 0, none⟩), .pointer (some ⟨w.heap.size, 0, none⟩)]
  have i1 := idx322_1 (.func 253) (.func 254) (.func 255) #[] #[] #[] #[.pointer (some ⟨w.heap.size + 1, 0, none⟩)] #[.pointer (some ⟨w.heap.size + 1, 0, none⟩)] #[.pointer (some ⟨w.heap.size + 1 + 1, 0, none⟩), .pointer (some ⟨w.heap.size, 0, none⟩)]
  have i2 := idx322_2 (.func 253) (.func 254) (.func 255) #[] #[] #[] #[.pointer (some ⟨w.heap.size + 1, 0, none⟩)] #[.pointer (some ⟨w.heap.size + 1, 0, none⟩)] #[.pointer (some ⟨w.heap.size + 1 + 1, 0, none⟩), .pointer (some ⟨w.heap.size, 0, none⟩)]
  clear hB1 hB2 hB3 hB4 d1 d2 d3 k4 hN h hk
  go_enter Tryz.func208, Tryz.ntmps208
  go_wp2_with fail
  refine wp_loop_rounds 3 ?_
  rw [rounds_succ]
  go_wp2_with fail
  refine wp_loop_rounds 4 ?_
  rw [rounds_succ]
  go_wp2_with (first | (go_at_call 253; (with_reducible refine (R0.out _ KK.out).mono ?_); rintro e wz ⟨rfl, hkk⟩; have KK2 := Lib.hid (KK.out.trans hkk); clear KK hkk; have KK := Lib.hid KK2.out; clear KK2) | (go_at_call 254; (with_reducible refine (T0.out _ KK.out).mono ?_); rintro e wz ⟨rfl, hkk⟩; have KK2 := Lib.hid (KK.out.trans hkk); clear KK hkk; have KK := Lib.hid KK2.out; clear KK2) | (go_at_call 255; (with_reducible refine (G0.out _ KK.out).mono ?_); rintro e wz ⟨rfl, hkk⟩; have KK2 := Lib.hid (KK.out.trans hkk); clear KK hkk; have KK := Lib.hid KK2.out; clear KK2))
  rw [rounds_succ]
  go_wp2_with (first | (go_at_call 253; (with_reducible refine (R0.out _ KK.out).mono ?_); rintro e wz ⟨rfl, hkk⟩; have KK2 := Lib.hid (KK.out.trans hkk); clear KK hkk; have KK := Lib.hid KK2.out; clear KK2) | (go_at_call 254; (with_reducible refine (T0.out _ KK.out).mono ?_); rintro e wz ⟨rfl, hkk⟩; have KK2 := Lib.hid (KK.out.trans hkk); clear KK hkk; have KK := Lib.hid KK2.out; clear KK2) | (go_at_call 255; (with_reducible refine (G0.out _ KK.out).mono ?_); rintro e wz ⟨rfl, hkk⟩; have KK2 := Lib.hid (KK.out.trans hkk); clear KK hkk; have KK := Lib.hid KK2.out; clear KK2))
  rw [rounds_succ]
  go_wp2_with (first | (go_at_call 253; (with_reducible refine (R0.out _ KK.out).mono ?_); rintro e wz ⟨rfl, hkk⟩; have KK2 := Lib.hid (KK.out.trans hkk); clear KK hkk; have KK := Lib.hid KK2.out; clear KK2) | (go_at_call 254; (with_reducible refine (T0.out _ KK.out).mono ?_); rintro e wz ⟨rfl, hkk⟩; have KK2 := Lib.hid (KK.out.trans hkk); clear KK hkk; have KK := Lib.hid KK2.out; clear KK2) | (go_at_call 255; (with_reducible refine (G0.out _ KK.out).mono ?_); rintro e wz ⟨rfl, hkk⟩; have KK2 := Lib.hid (KK.out.trans hkk); clear KK hkk; have KK := Lib.hid KK2.out; clear KK2))
  rw [rounds_succ]
  go_wp2_with (first | (go_at_call 253; (with_reducible refine (R0.out _ KK.out).mono ?_); rintro e wz ⟨rfl, hkk⟩; have KK2 := Lib.hid (KK.out.trans hkk); clear KK hkk; have KK := Lib.hid KK2.out; clear KK2) | (go_at_call 254; (with_reducible refine (T0.out _ KK.out).mono ?_); rintro e wz ⟨rfl, hkk⟩; have KK2 := Lib.hid (KK.out.trans hkk); clear KK hkk; have KK := Lib.hid KK2.out; clear KK2) | (go_at_call 255; (with_reducible refine (G0.out _ KK.out).mono ?_); rintro e wz ⟨rfl, hkk⟩; have KK2 := Lib.hid (KK.out.trans hkk); clear KK hkk; have KK := Lib.hid KK2.out; clear KK2))
  obtain ⟨a0, a1, a2⟩ := AC.out _ KK.out
  rw [rounds_succ]
  go_wp2_with fail
  refine wp_loop_rounds 4 ?_
  rw [rounds_succ]
  go_wp2_with (first | (go_at_call 253; (with_reducible refine (R1.out _ KK.out).mono ?_); rintro e wz ⟨rfl, hkk⟩; have KK2 := Lib.hid (KK.out.trans hkk); clear KK hkk; have KK := Lib.hid KK2.out; clear KK2) | (go_at_call 254; (with_reducible refine (T1.out _ KK.out).mono ?_); rintro e wz ⟨rfl, hkk⟩; have KK2 := Lib.hid (KK.out.trans hkk); clear KK hkk; have KK := Lib.hid KK2.out; clear KK2) | (go_at_call 255; (with_reducible refine (G1.out _ KK.out).mono ?_); rintro e wz ⟨rfl, hkk⟩; have KK2 := Lib.hid (KK.out.trans hkk); clear KK hkk; have KK := Lib.hid KK2.out; clear KK2))
  rw [rounds_succ]
  go_wp2_with (first | (go_at_call 253; (with_reducible refine (R1.out _ KK.out).mono ?_); rintro e wz ⟨rfl, hkk⟩; have KK2 := Lib.hid (KK.out.trans hkk); clear KK hkk; have KK := Lib.hid KK2.out; clear KK2) | (go_at_call 254; (with_reducible refine (T1.out _ KK.out).mono ?_); rintro e wz ⟨rfl, hkk⟩; have KK2 := Lib.hid (KK.out.trans hkk); clear KK hkk; have KK := Lib.hid KK2.out; clear KK2) | (go_at_call 255; (with_reducible refine (G1.out _ KK.out).mono ?_); rintro e wz ⟨rfl, hkk⟩; have KK2 := Lib.hid (KK.out.trans hkk); clear KK hkk; have KK := Lib.hid KK2.out; clear KK2))
  rw [rounds_succ]
  go_wp2_with (first | (go_at_call 253; (with_reducible refine (R1.out _ KK.out).mono ?_); rintro e wz ⟨rfl, hkk⟩; have KK2 := Lib.hid (KK.out.trans hkk); clear KK hkk; have KK := Lib.hid KK2.out; clear KK2) | (go_at_call 254; (with_reducible refine (T1.out _ KK.out).mono ?_); rintro e wz ⟨rfl, hkk⟩; have KK2 := Lib.hid (KK.out.trans hkk); clear KK hkk; have KK := Lib.hid KK2.out; clear KK2) | (go_at_call 255; (with_reducible refine (G1.out _ KK.out).mono ?_); rintro e wz ⟨rfl, hkk⟩; have KK2 := Lib.hid (KK.out.trans hkk); clear KK hkk; have KK := Lib.hid KK2.out; clear KK2))
  rw [rounds_succ]
  go_wp2_with (first | (go_at_call 253; (with_reducible refine (R1.out _ KK.out).mono ?_); rintro e wz ⟨rfl, hkk⟩; have KK2 := Lib.hid (KK.out.trans hkk); clear KK hkk; have KK := Lib.hid KK2.out; clear KK2) | (go_at_call 254; (with_reducible refine (T1.out _ KK.out).mono ?_); rintro e wz ⟨rfl, hkk⟩; have KK2 := Lib.hid (KK.out.trans hkk); clear KK hkk; have KK := Lib.hid KK2.out; clear KK2) | (go_at_call 255; (with_reducible refine (G1.out _ KK.out).mono ?_); rintro e wz ⟨rfl, hkk⟩; have KK2 := Lib.hid (KK.out.trans hkk); clear KK hkk; have KK := Lib.hid KK2.out; clear KK2))
  have sc := SC.out _ KK.out
  rw [rounds_succ]
  go_wp2_with fail
  go_ret
  exact ⟨rfl, KW.out.trans KK.out⟩
end Go.Proofs.YthkmpegpmpdhaaaGreatDoor
