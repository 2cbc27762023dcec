/- Part of the proof of TopOwnItem. Conditions: as stated in each theorem. -/
import Derived.Test.YthkmpegpmpdhaaaGreatDoorZNc
import Derived.Test.YthkmpegpmpdhaaaGreatDoorProg
import Derived.WalkMore
import Derived.LoopN
import Derived.Lib.ConvBytes
import Derived.Maps.OwnIn
import Derived.Deep.LoopGhost
import Derived.RangeFuncNested
import Derived.RangeFuncCalls
import Derived.RangeFuncLeaves
import Derived.RangeFuncWrites
import Derived.Shelf.Abstract
import Derived.Shelf.RegionOpen
import Derived.OwnWalkIn
import Derived.TacticsInMore
import Derived.LoopNIn
import Derived.LoopIn
import Derived.RangeFuncBound
import Derived.WalkKit
import Derived.WalkSpells
import Derived.WalkLawsBesides
import Derived.Laws.EntriesVeiled
import Derived.ProofKit
import Derived.OpenShut
import Derived.Lib.Hide
import Derived.BigQuiet
import Derived.Deep.QuietTactic
import Derived.Deep.CutRange
import Derived.StillTailTactics
import Derived.Lib.SliceRun
import Derived.RangeFuncRecord
import Derived.Carry
import Derived.ChangeKeysEq
import Derived.Below
import Derived.Laws.OwnMore
import Derived.Deep.AppendLies
import Derived.Deep.Draws
import Derived.Laws.Rows
import Derived.Maps.AppendAt
import Derived.RegionTactic
import Derived.OwnWalk
import Derived.Deep.RegionHeld3
namespace Go.Proofs.YthkmpegpmpdhaaaGreatDoor
open Go.Shelf Go.ChangeShapes Go.WideShapes Go.ChangeAt Go.RowKit
set_option linter.unusedSimpArgs false
set_option linter.unusedVariables false
attribute [local go_sem] Oper.semAt_some
theorem idx322_0 (f0 f1 f2 : Fn) (a0 a1 a2 b0 b1 b2 : Array Value) (w : World) : (Instr.index 322 (.agg #[.func f0 a0 b0, .func f1 a1 b1, .func f2 a2 b2]) (.int .i64 0)).run Tryz.prog w = .ok (.func f0 a0 b0) w := by kernel_rfl
theorem idx322_1 (f0 f1 f2 : Fn) (a0 a1 a2 b0 b1 b2 : Array Value) (w : World) : (Instr.index 322 (.agg #[.func f0 a0 b0, .func f1 a1 b1, .func f2 a2 b2]) (.int .i64 1)).run Tryz.prog w = .ok (.func f1 a1 b1) w := by kernel_rfl
theorem idx322_2 (f0 f1 f2 : Fn) (a0 a1 a2 b0 b1 b2 : Array Value) (w : World) : (Instr.index 322 (.agg #[.func f0 a0 b0, .func f1 a1 b1, .func f2 a2 b2]) (.int .i64 2)).run Tryz.prog w = .ok (.func f2 a2 b2) w := by kernel_rfl
set_option maxRecDepth 100000 in
set_option maxHeartbeats 8000000 in
theorem rule239_0 (FB NB bw bc bn bo bf bl bk : Nat) (w : World) (hN : Blk w NB 87 (netC bc bn bo bf bl bk)) (h : Net w bw bc bn bo bf bl bk) (hk : Kw w) (hf : w.cell? ⟨FB, 0, none⟩ = some (.func (.func 197) #[] #[.pointer (some ⟨NB, 0, none⟩)])) : Calls Tryz.prog 239 #[.int .i64 0, .pointer (some ⟨FB, 0, none⟩)] w fun e w' => e = .returned (.int .i64 0) ∧ Keeps w w' := by
  have H1 := Lib.hid (name197_0 NB bw bc bn bo bf bl bk w hN h)
  have H2 := Lib.hid (isName240 99 w hk (by decide))
  clear hN h hk
  go_enter Tryz.func239, Tryz.ntmps239
  go_wp2_with (first | (go_at_call 197; (with_reducible refine H1.out.mono ?_); rintro e w1 ⟨rfl, rfl⟩) | (go_at_call 240; (with_reducible refine H2.out.mono ?_); rintro e w1 ⟨rfl, hkk⟩; have K := Lib.hid hkk; clear hkk))
  go_ret
  exact ⟨rfl, K.out⟩
set_option maxRecDepth 100000 in
set_option maxHeartbeats 8000000 in
theorem twice241_0 (FB NB bw bc bn bo bf bl bk : Nat) (w : World) (hN : Blk w NB 87 (netC bc bn bo bf bl bk)) (h : Net w bw bc bn bo bf bl bk) (hf : w.cell? ⟨FB, 0, none⟩ = some (.func (.func 197) #[] #[.pointer (some ⟨NB, 0, none⟩)])) : Calls Tryz.prog 241 #[.int .i64 0, .pointer (some ⟨FB, 0, none⟩)] w fun e w' => e = .returned (.int .i64 0) ∧ Keeps w w' := by
  clear hN h
  have K := Lib.hid (Keeps.refl w)
  go_enter Tryz.func241, Tryz.ntmps241
  go_wp2_with fail
  refine wp_loop_rounds 1 ?_
  rw [rounds_succ]
  go_wp2_with fail
  go_ret
  exact ⟨rfl, K.out⟩
set_option maxRecDepth 100000 in
set_option maxHeartbeats 8000000 in
theorem good242_0 (GB TB NB bw bc bn bo bf bl bk : Nat) (w : World) (hN : Blk w NB 87 (netC bc bn bo bf bl bk)) (h : Net w bw bc bn bo bf bl bk) (hf : w.cell? ⟨GB, 0, none⟩ = some (.func (.func 199) #[] #[])) (ht : w.cell? ⟨TB, 0, none⟩ = some (.slice (some ⟨bc, 0, none⟩) 1 1)) : Calls Tryz.prog 242 #[.int .i64 0, .pointer (some ⟨GB, 0, none⟩), .pointer (some ⟨TB, 0, none⟩)] w fun e w' => e = .returned (.int .i64 0) ∧ Keeps w w' := by
  have c0 := h.ca.cell 0
  have c1 := h.ca.cell 1
  have c2 := h.ca.cell 2
  have H1 := Lib.hid (show ∀ X, Keeps w X → Calls Tryz.prog 199 #[.agg #[.int .i64 0, .slice (some ⟨bw, 0, none⟩) 7 7, .slice none 0 0]] X (BoolPost true X) from fun X hX => valid199 bw X)
  clear hN h
  have K := Lib.hid ((Keeps.refl w).drew)
  go_enter Tryz.func242, Tryz.ntmps242
  go_wp2_with fail
  go_region_with (go_at_call 199; (with_reducible refine (H1.out _ K.out).mono ?_); rintro e w1 ⟨rfl, hkk⟩; have K2 := Lib.hid (K.out.trans hkk); clear hkk)
  all_goals (go_wp2_with fail; go_ret; exact ⟨rfl, K2.out⟩)
set_option maxRecDepth 100000 in
set_option maxHeartbeats 8000000 in
theorem check198 (NB bw bc bn bo bf bl bk : Nat) (w : World) (hN : Blk w NB 87 (netC bc bn bo bf bl bk)) (h : Net w bw bc bn bo bf bl bk) (hk : Kw w) : Calls Tryz.prog 198 #[.int .i64 1, .int .i64 6, .slice (some ⟨bc, 0, none⟩) 1 1, .func (.func 197) #[] #[.pointer (some ⟨NB, 0, none⟩)], .func (.func 199) #[] #[]] w fun e w' => e = .returned (.slice none 0 0) ∧ Keeps w w' := by
  have k4 := ((((Keeps.refl w).alloc (.cells #[.slice (some ⟨bc, 0, none⟩) 1 1] 81)).alloc (.cells #[.func (.func 197) #[] #[.pointer (some ⟨NB, 0, none⟩)]] 207)).alloc (.cells #[.func (.func 199) #[] #[]] 288)).alloc (.cells #[.func (.func 239) #[] #[.pointer (some ⟨w.heap.size + 1, 0, none⟩)], .func (.func 241) #[] #[.pointer (some ⟨w.heap.size + 1, 0, none⟩)], .func (.func 242) #[] #[.pointer (some ⟨w.heap.size + 1 + 1, 0, none⟩), .pointer (some ⟨w.heap.size, 0, none⟩)]] 322)
  have hB1 := (((Blk.new w 81 #[.slice (some ⟨bc, 0, none⟩) 1 1]).alloc (.cells #[.func (.func 197) #[] #[.pointer (some ⟨NB, 0, none⟩)]] 207)).alloc (.cells #[.func (.func 199) #[] #[]] 288)).alloc (.cells #[.func (.func 239) #[] #[.pointer (some ⟨w.heap.size + 1, 0, none⟩)], .func (.func 241) #[] #[.pointer (some ⟨w.heap.size + 1, 0, none⟩)], .func (.func 242) #[] #[.pointer (some ⟨w.heap.size + 1 + 1, 0, none⟩), .pointer (some ⟨w.heap.size, 0, none⟩)]] 322)
  have hB2 := ((Blk.new (w.alloc (.cells #[.slice (some ⟨bc, 0, none⟩) 1 1] 81)) 207 #[.func (.func 197) #[] #[.pointer (some ⟨NB, 0, none⟩)]]).alloc (.cells #[.func (.func 199) #[] #[]] 288)).alloc (.cells #[.func (.func 239) #[] #[.pointer (some ⟨w.heap.size + 1, 0, none⟩)], .func (.func 241) #[] #[.pointer (some ⟨w.heap.size + 1, 0, none⟩)], .func (.func 242) #[] #[.pointer (some ⟨w.heap.size + 1 + 1, 0, none⟩), .pointer (some ⟨w.heap.size, 0, none⟩)]] 322)
  have hB3 := (Blk.new ((w.alloc (.cells #[.slice (some ⟨bc, 0, none⟩) 1 1] 81)).alloc (.cells #[.func (.func 197) #[] #[.pointer (some ⟨NB, 0, none⟩)]] 207)) 288 #[.func (.func 199) #[] #[]]).alloc (.cells #[.func (.func 239) #[] #[.pointer (some ⟨w.heap.size + 1, 0, none⟩)], .func (.func 241) #[] #[.pointer (some ⟨w.heap.size + 1, 0, none⟩)], .func (.func 242) #[] #[.pointer (some ⟨w.heap.size + 1 + 1, 0, none⟩), .pointer (some ⟨w.heap.size, 0, none⟩)]] 322)
  have hB4 := Blk.new (((w.alloc (.cells #[.slice (some ⟨bc, 0, none⟩) 1 1] 81)).alloc (.cells #[.func (.func 197) #[] #[.pointer (some ⟨NB, 0, none⟩)]] 207)).alloc (.cells #[.func (.func 199) #[] #[]] 288)) 322 #[.func (.func 239) #[] #[.pointer (some ⟨w.heap.size + 1, 0, none⟩)], .func (.func 241) #[] #[.pointer (some ⟨w.heap.size + 1, 0, none⟩)], .func (.func 242) #[] #[.pointer (some ⟨w.heap.size + 1 + 1, 0, none⟩), .pointer (some ⟨w.heap.size, 0, none⟩)]]
  rw [World.size_alloc] at hB2
  rw [World.size_alloc, World.size_alloc] at hB3
  rw [World.size_alloc, World.size_alloc, World.size_alloc] at hB4
  have d1 := hB1.cell 0
  have d2 := hB2.cell 0
  have d3 := hB3.cell 0
  have AC := Lib.hid (fun X (hX : Keeps ((((w.alloc (.cells #[.slice (some ⟨bc, 0, none⟩) 1 1] 81)).alloc (.cells #[.func (.func 197) #[] #[.pointer (some ⟨NB, 0, none⟩)]] 207)).alloc (.cells #[.func (.func 199) #[] #[]] 288)).alloc (.cells #[.func (.func 239) #[] #[.pointer (some ⟨w.heap.size + 1, 0, none⟩)], .func (.func 241) #[] #[.pointer (some ⟨w.heap.size + 1, 0, none⟩)], .func (.func 242) #[] #[.pointer (some ⟨w.heap.size + 1 + 1, 0, none⟩), .pointer (some ⟨w.heap.size, 0, none⟩)]] 322)) X) => (⟨cell_keep (hB4.cell 0) hX, cell_keep (hB4.cell 1) hX, cell_keep (hB4.cell 2) hX⟩ : _ ∧ _ ∧ _))
  have SC := Lib.hid (fun X (hX : Keeps ((((w.alloc (.cells #[.slice (some ⟨bc, 0, none⟩) 1 1] 81)).alloc (.cells #[.func (.func 197) #[] #[.pointer (some ⟨NB, 0, none⟩)]] 207)).alloc (.cells #[.func (.func 199) #[] #[]] 288)).alloc (.cells #[.func (.func 239) #[] #[.pointer (some ⟨w.heap.size + 1, 0, none⟩)], .func (.func 241) #[] #[.pointer (some ⟨w.heap.size + 1, 0, none⟩)], .func (.func 242) #[] #[.pointer (some ⟨w.heap.size + 1 + 1, 0, none⟩), .pointer (some ⟨w.heap.size, 0, none⟩)]] 322)) X) => cell_keep d1 hX)
  have R0 := Lib.hid (fun X (hX : Keeps ((((w.alloc (.cells #[.slice (some ⟨bc, 0, none⟩) 1 1] 81)).alloc (.cells #[.func (.func 197) #[] #[.pointer (some ⟨NB, 0, none⟩)]] 207)).alloc (.cells #[.func (.func 199) #[] #[]] 288)).alloc (.cells #[.func (.func 239) #[] #[.pointer (some ⟨w.heap.size + 1, 0, none⟩)], .func (.func 241) #[] #[.pointer (some ⟨w.heap.size + 1, 0, none⟩)], .func (.func 242) #[] #[.pointer (some ⟨w.heap.size + 1 + 1, 0, none⟩), .pointer (some ⟨w.heap.size, 0, none⟩)]] 322)) X) => rule239_0 (w.heap.size + 1) NB bw bc bn bo bf bl bk X (hN.below (k4.trans hX) hN.lt) (h.keep (k4.trans hX)) (hk.keep (k4.trans hX)) (cell_keep d2 hX))
  have T0 := Lib.hid (fun X (hX : Keeps ((((w.alloc (.cells #[.slice (some ⟨bc, 0, none⟩) 1 1] 81)).alloc (.cells #[.func (.func 197) #[] #[.pointer (some ⟨NB, 0, none⟩)]] 207)).alloc (.cells #[.func (.func 199) #[] #[]] 288)).alloc (.cells #[.func (.func 239) #[] #[.pointer (some ⟨w.heap.size + 1, 0, none⟩)], .func (.func 241) #[] #[.pointer (some ⟨w.heap.size + 1, 0, none⟩)], .func (.func 242) #[] #[.pointer (some ⟨w.heap.size + 1 + 1, 0, none⟩), .pointer (some ⟨w.heap.size, 0, none⟩)]] 322)) X) => twice241_0 (w.heap.size + 1) NB bw bc bn bo bf bl bk X (hN.below (k4.trans hX) hN.lt) (h.keep (k4.trans hX)) (cell_keep d2 hX))
  have G0 := Lib.hid (fun X (hX : Keeps ((((w.alloc (.cells #[.slice (some ⟨bc, 0, none⟩) 1 1] 81)).alloc (.cells #[.func (.func 197) #[] #[.pointer (some ⟨NB, 0, none⟩)]] 207)).alloc (.cells #[.func (.func 199) #[] #[]] 288)).alloc (.cells #[.func (.func 239) #[] #[.pointer (some ⟨w.heap.size + 1, 0, none⟩)], .func (.func 241) #[] #[.pointer (some ⟨w.heap.size + 1, 0, none⟩)], .func (.func 242) #[] #[.pointer (some ⟨w.heap.size + 1 + 1, 0, none⟩), .pointer (some ⟨w.heap.size, 0, none⟩)]] 322)) X) => good242_0 (w.heap.size + 1 + 1) w.heap.size NB bw bc bn bo bf bl bk X (hN.below (k4.trans hX) hN.lt) (h.keep (k4.trans hX)) (cell_keep d3 hX) (cell_keep d1 hX))
  have KW := Lib.hid k4
  have KK := Lib.hid (Keeps.refl ((((w.alloc (.cells #[.slice (some ⟨bc, 0, none⟩) 1 1] 81)).alloc (.cells #[.func (.func 197) #[] #[.pointer (some ⟨NB, 0, none⟩)]] 207)).alloc (.cells #[.func (.func 199) #[] #[]] 288)).alloc (.cells #[.func (.func 239) #[] #[.pointer (some ⟨w.heap.size + 1, 0, none⟩)], .func (.func 241) #[] #[.pointer (some ⟨w.heap.size + 1, 0, none⟩)], .func (.func 242) #[] #[.pointer (some ⟨w.heap.size + 1 + 1, 0, none⟩), .pointer (some ⟨w.heap.size, 0, none⟩)]] 322)))
  have i0 := idx322_0 (.func 239) (.func 241) (.func 242) #[] #[] #[] #[.pointer (some ⟨w.heap.size + 1, 0, none⟩)] #[.pointer (some ⟨w.heap.size + 1, 0, none⟩)] #[.pointer (some ⟨w.heap.size + 1 + 1, 0, none⟩), .pointer (some ⟨w.heap.size, 0, none⟩)]
  have i1 := idx322_1 (.func 239) (.func 241) (.func 242) #[] #[] #[] #[.pointer (some ⟨w.heap.size + 1, 0, none⟩)] #[.pointer (some ⟨w.heap.size + 1, 0, none⟩)] #[.pointer (some ⟨w.heap.size + 1 + 1, 0, none⟩), .pointer (some ⟨w.heap.size, 0, none⟩)]
  have i2 := idx322_2 (.func 239) (.func 241) (.func 242) #[] #[] #[] #[.pointer (some ⟨w.heap.size + 1, 0, none⟩)] #[.pointer (some ⟨w.heap.size + 1, 0, none⟩)] #[.pointer (some ⟨w.heap.size + 1 + 1, 0, none⟩), .pointer (some ⟨w.heap.size, 0, none⟩)]
  clear hB1 hB2 hB3 hB4 d1 d2 d3 k4 hN h hk
  go_enter Tryz.func198, Tryz.ntmps198
  go_wp2_with fail
  refine wp_loop_rounds 2 ?_
  rw [rounds_succ]
  go_wp2_with fail
  refine wp_loop_rounds 4 ?_
  rw [rounds_succ]
  go_wp2_with (first | (go_at_call 239; (with_reducible refine (R0.out _ KK.out).mono ?_); rintro e wz ⟨rfl, hkk⟩; have KK2 := Lib.hid (KK.out.trans hkk); clear KK hkk; have KK := Lib.hid KK2.out; clear KK2) | (go_at_call 241; (with_reducible refine (T0.out _ KK.out).mono ?_); rintro e wz ⟨rfl, hkk⟩; have KK2 := Lib.hid (KK.out.trans hkk); clear KK hkk; have KK := Lib.hid KK2.out; clear KK2) | (go_at_call 242; (with_reducible refine (G0.out _ KK.out).mono ?_); rintro e wz ⟨rfl, hkk⟩; have KK2 := Lib.hid (KK.out.trans hkk); clear KK hkk; have KK := Lib.hid KK2.out; clear KK2))
  rw [rounds_succ]
  go_wp2_with (first | (go_at_call 239; (with_reducible refine (R0.out _ KK.out).mono ?_); rintro e wz ⟨rfl, hkk⟩; have KK2 := Lib.hid (KK.out.trans hkk); clear KK hkk; have KK := Lib.hid KK2.out; clear KK2) | (go_at_call 241; (with_reducible refine (T0.out _ KK.out).mono ?_); rintro e wz ⟨rfl, hkk⟩; have KK2 := Lib.hid (KK.out.trans hkk); clear KK hkk; have KK := Lib.hid KK2.out; clear KK2) | (go_at_call 242; (with_reducible refine (G0.out _ KK.out).mono ?_); rintro e wz ⟨rfl, hkk⟩; have KK2 := Lib.hid (KK.out.trans hkk); clear KK hkk; have KK := Lib.hid KK2.out; clear KK2))
  rw [rounds_succ]
  go_wp2_with (first | (go_at_call 239; (with_reducible refine (R0.out _ KK.out).mono ?_); rintro e wz ⟨rfl, hkk⟩; have KK2 := Lib.hid (KK.out.trans hkk); clear KK hkk; have KK := Lib.hid KK2.out; clear KK2) | (go_at_call 241; (with_reducible refine (T0.out _ KK.out).mono ?_); rintro e wz ⟨rfl, hkk⟩; have KK2 := Lib.hid (KK.out.trans hkk); clear KK hkk; have KK := Lib.hid KK2.out; clear KK2) | (go_at_call 242; (with_reducible refine (G0.out _ KK.out).mono ?_); rintro e wz ⟨rfl, hkk⟩; have KK2 := Lib.hid (KK.out.trans hkk); clear KK hkk; have KK := Lib.hid KK2.out; clear KK2))
  rw [rounds_succ]
  go_wp2_with (first | (go_at_call 239; (with_reducible refine (R0.out _ KK.out).mono ?_); rintro e wz ⟨rfl, hkk⟩; have KK2 := Lib.hid (KK.out.trans hkk); clear KK hkk; have KK := Lib.hid KK2.out; clear KK2) | (go_at_call 241; (with_reducible refine (T0.out _ KK.out).mono ?_); rintro e wz ⟨rfl, hkk⟩; have KK2 := Lib.hid (KK.out.trans hkk); clear KK hkk; have KK := Lib.hid KK2.out; clear KK2) | (go_at_call 242; (with_reducible refine (G0.out _ KK.out).mono ?_); rintro e wz ⟨rfl, hkk⟩; have KK2 := Lib.hid (KK.out.trans hkk); clear KK hkk; have KK := Lib.hid KK2.out; clear KK2))
  have sc := SC.out _ KK.out
  rw [rounds_succ]
  go_wp2_with fail
  go_ret
  exact ⟨rfl, KW.out.trans KK.out⟩
set_option maxRecDepth 100000 in
set_option maxHeartbeats 8000000 in
theorem rule243_0 (FB NB bw bc bn bo bf bl bk : Nat) (w : World) (hN : Blk w NB 87 (netC bc bn bo bf bl bk)) (h : Net w bw bc bn bo bf bl bk) (hk : Kw w) (hf : w.cell? ⟨FB, 0, none⟩ = some (.func (.func 200) #[] #[.pointer (some ⟨NB, 0, none⟩)])) : Calls Tryz.prog 243 #[.int .i64 0, .pointer (some ⟨FB, 0, none⟩)] w fun e w' => e = .returned (.int .i64 0) ∧ Keeps w w' := by
  have H1 := Lib.hid (name200_0 NB bw bc bn bo bf bl bk w hN h)
  have H2 := Lib.hid (isName240 112 w hk (by decide))
  clear hN h hk
  go_enter Tryz.func243, Tryz.ntmps243
  go_wp2_with (first | (go_at_call 200; (with_reducible refine H1.out.mono ?_); rintro e w1 ⟨rfl, rfl⟩) | (go_at_call 240; (with_reducible refine H2.out.mono ?_); rintro e w1 ⟨rfl, hkk⟩; have K := Lib.hid hkk; clear hkk))
  go_ret
  exact ⟨rfl, K.out⟩
set_option maxRecDepth 100000 in
set_option maxHeartbeats 8000000 in
theorem rule243_1 (FB NB bw bc bn bo bf bl bk : Nat) (w : World) (hN : Blk w NB 87 (netC bc bn bo bf bl bk)) (h : Net w bw bc bn bo bf bl bk) (hk : Kw w) (hf : w.cell? ⟨FB, 0, none⟩ = some (.func (.func 200) #[] #[.pointer (some ⟨NB, 0, none⟩)])) : Calls Tryz.prog 243 #[.int .i64 1, .pointer (some ⟨FB, 0, none⟩)] w fun e w' => e = .returned (.int .i64 0) ∧ Keeps w w' := by
  have H1 := Lib.hid (name200_1 NB bw bc bn bo bf bl bk w hN h)
  have H2 := Lib.hid (isName240 113 w hk (by decide))
  clear hN h hk
  go_enter Tryz.func243, Tryz.ntmps243
  go_wp2_with (first | (go_at_call 200; (with_reducible refine H1.out.mono ?_); rintro e w1 ⟨rfl, rfl⟩) | (go_at_call 240; (with_reducible refine H2.out.mono ?_); rintro e w1 ⟨rfl, hkk⟩; have K := Lib.hid hkk; clear hkk))
  go_ret
  exact ⟨rfl, K.out⟩
set_option maxRecDepth 100000 in
set_option maxHeartbeats 8000000 in
theorem twice244_0 (FB NB bw bc bn bo bf bl bk : Nat) (w : World) (hN : Blk w NB 87 (netC bc bn bo bf bl bk)) (h : Net w bw bc bn bo bf bl bk) (hf : w.cell? ⟨FB, 0, none⟩ = some (.func (.func 200) #[] #[.pointer (some ⟨NB, 0, none⟩)])) : Calls Tryz.prog 244 #[.int .i64 0, .pointer (some ⟨FB, 0, none⟩)] w fun e w' => e = .returned (.int .i64 0) ∧ Keeps w w' := by
  clear hN h
  have K := Lib.hid (Keeps.refl w)
  go_enter Tryz.func244, Tryz.ntmps244
  go_wp2_with fail
  refine wp_loop_rounds 1 ?_
  rw [rounds_succ]
  go_wp2_with fail
  go_ret
  exact ⟨rfl, K.out⟩
set_option maxRecDepth 100000 in
set_option maxHeartbeats 8000000 in
theorem twice244_1 (FB NB bw bc bn bo bf bl bk : Nat) (w : World) (hN : Blk w NB 87 (netC bc bn bo bf bl bk)) (h : Net w bw bc bn bo bf bl bk) (hf : w.cell? ⟨FB, 0, none⟩ = some (.func (.func 200) #[] #[.pointer (some ⟨NB, 0, none⟩)])) : Calls Tryz.prog 244 #[.int .i64 1, .pointer (some ⟨FB, 0, none⟩)] w fun e w' => e = .returned (.int .i64 0) ∧ Keeps w w' := by
  have H0 := Lib.hid (fun X (hX : Keeps w X) => name200_0 NB bw bc bn bo bf bl bk X (hN.below hX hN.lt) (h.keep hX))
  have H1 := Lib.hid (fun X (hX : Keeps w X) => name200_1 NB bw bc bn bo bf bl bk X (hN.below hX hN.lt) (h.keep hX))
  clear hN h
  have K := Lib.hid (Keeps.refl w)
  go_enter Tryz.func244, Tryz.ntmps244
  go_wp2_with fail
  refine wp_loop_rounds 2 ?_
  rw [rounds_succ]
  go_wp2_with fail
  go_quiet ((first | (go_at_call 200; exact Calls.quiet_of_same (H0.out _ (K.out.drewN _))) | (go_at_call 200; exact Calls.quiet_of_same (H1.out _ (K.out.drewN _)))))
  go_wp2_with fail
  rw [rounds_succ]
  go_wp2_with fail
  go_ret
  exact ⟨rfl, K.out.drewN _⟩
set_option maxRecDepth 100000 in
set_option maxHeartbeats 8000000 in
theorem good245_0 (GB TB NB bw bc bn bo bf bl bk : Nat) (w : World) (hN : Blk w NB 87 (netC bc bn bo bf bl bk)) (h : Net w bw bc bn bo bf bl bk) (hf : w.cell? ⟨GB, 0, none⟩ = some (.func (.func 202) #[] #[])) (ht : w.cell? ⟨TB, 0, none⟩ = some (.slice (some ⟨bo, 0, none⟩) 2 2)) : Calls Tryz.prog 245 #[.int .i64 0, .pointer (some ⟨GB, 0, none⟩), .pointer (some ⟨TB, 0, none⟩)] w fun e w' => e = .returned (.int .i64 0) ∧ Keeps w w' := by
  have c0 := h.op.cell 0
  have H1 := Lib.hid (show ∀ X, Keeps w X → Calls Tryz.prog 202 #[.agg #[.string ⟨#[112]⟩]] X (BoolPost true X) from fun X hX => any202 ⟨#[112]⟩ X)
  clear hN h
  have K := Lib.hid ((Keeps.refl w).drew)
  go_enter Tryz.func245, Tryz.ntmps245
  go_wp2_with fail
  go_region_with (go_at_call 202; (with_reducible refine (H1.out _ K.out).mono ?_); rintro e w1 ⟨rfl, hkk⟩; have K2 := Lib.hid (K.out.trans hkk); clear hkk)
  all_goals (go_wp2_with fail; go_ret; exact ⟨rfl, K2.out⟩)
set_option maxRecDepth 100000 in
set_option maxHeartbeats 8000000 in
theorem good245_1 (GB TB NB bw bc bn bo bf bl bk : Nat) (w : World) (hN : Blk w NB 87 (netC bc bn bo bf bl bk)) (h : Net w bw bc bn bo bf bl bk) (hf : w.cell? ⟨GB, 0, none⟩ = some (.func (.func 202) #[] #[])) (ht : w.cell? ⟨TB, 0, none⟩ = some (.slice (some ⟨bo, 0, none⟩) 2 2)) : Calls Tryz.prog 245 #[.int .i64 1, .pointer (some ⟨GB, 0, none⟩), .pointer (some ⟨TB, 0, none⟩)] w fun e w' => e = .returned (.int .i64 0) ∧ Keeps w w' := by
  have c0 := h.op.cell 1
  have H1 := Lib.hid (show ∀ X, Keeps w X → Calls Tryz.prog 202 #[.agg #[.string ⟨#[113]⟩]] X (BoolPost true X) from fun X hX => any202 ⟨#[113]⟩ X)
  clear hN h
  have K := Lib.hid ((Keeps.refl w).drew)
  go_enter Tryz.func245, Tryz.ntmps245
  go_wp2_with fail
  go_region_with (go_at_call 202; (with_reducible refine (H1.out _ K.out).mono ?_); rintro e w1 ⟨rfl, hkk⟩; have K2 := Lib.hid (K.out.trans hkk); clear hkk)
  all_goals (go_wp2_with fail; go_ret; exact ⟨rfl, K2.out⟩)
set_option maxRecDepth 100000 in
set_option maxHeartbeats 8000000 in
theorem check201 (NB bw bc bn bo bf bl bk : Nat) (w : World) (hN : Blk w NB 87 (netC bc bn bo bf bl bk)) (h : Net w bw bc bn bo bf bl bk) (hk : Kw w) : Calls Tryz.prog 201 #[.int .i64 2, .int .i64 6, .slice (some ⟨bo, 0, none⟩) 2 2, .func (.func 200) #[] #[.pointer (some ⟨NB, 0, none⟩)], .func (.func 202) #[] #[]] w fun e w' => e = .returned (.slice none 0 0) ∧ Keeps w w' := by
  have k4 := ((((Keeps.refl w).alloc (.cells #[.slice (some ⟨bo, 0, none⟩) 2 2] 82)).alloc (.cells #[.func (.func 200) #[] #[.pointer (some ⟨NB, 0, none⟩)]] 207)).alloc (.cells #[.func (.func 202) #[] #[]] 290)).alloc (.cells #[.func (.func 243) #[] #[.pointer (some ⟨w.heap.size + 1, 0, none⟩)], .func (.func 244) #[] #[.pointer (some ⟨w.heap.size + 1, 0, none⟩)], .func (.func 245) #[] #[.pointer (some ⟨w.heap.size + 1 + 1, 0, none⟩), .pointer (some ⟨w.heap.size, 0, none⟩)]] 322)
  have hB1 := (((Blk.new w 82 #[.slice (some ⟨bo, 0, none⟩) 2 2]).alloc (.cells #[.func (.func 200) #[] #[.pointer (some ⟨NB, 0, none⟩)]] 207)).alloc (.cells #[.func (.func 202) #[] #[]] 290)).alloc (.cells #[.func (.func 243) #[] #[.pointer (some ⟨w.heap.size + 1, 0, none⟩)], .func (.func 244) #[] #[.pointer (some ⟨w.heap.size + 1, 0, none⟩)], .func (.func 245) #[] #[.pointer (some ⟨w.heap.size + 1 + 1, 0, none⟩), .pointer (some ⟨w.heap.size, 0, none⟩)]] 322)
  have hB2 := ((Blk.new (w.alloc (.cells #[.slice (some ⟨bo, 0, none⟩) 2 2] 82)) 207 #[.func (.func 200) #[] #[.pointer (some ⟨NB, 0, none⟩)]]).alloc (.cells #[.func (.func 202) #[] #[]] 290)).alloc (.cells #[.func (.func 243) #[] #[.pointer (some ⟨w.heap.size + 1, 0, none⟩)], .func (.func 244) #[] #[.pointer (some ⟨w.heap.size + 1, 0, none⟩)], .func (.func 245) #[] #[.pointer (some ⟨w.heap.size + 1 + 1, 0, none⟩), .pointer (some ⟨w.heap.size, 0, none⟩)]] 322)
  have hB3 := (Blk.new ((w.alloc (.cells #[.slice (some ⟨bo, 0, none⟩) 2 2] 82)).alloc (.cells #[.func (.func 200) #[] #[.pointer (some ⟨NB, 0, none⟩)]] 207)) 290 #[.func (.func 202) #[] #[]]).alloc (.cells #[.func (.func 243) #[] #[.pointer (some ⟨w.heap.size + 1, 0, none⟩)], .func (.func 244) #[] #[.pointer (some ⟨w.heap.size + 1, 0, none⟩)], .func (.func 245) #[] #[.pointer (some ⟨w.heap.size + 1 + 1, 0, none⟩), .pointer (some ⟨w.heap.size, 0, none⟩)]] 322)
  have hB4 := Blk.new (((w.alloc (.cells #[.slice (some ⟨bo, 0, none⟩) 2 2] 82)).alloc (.cells #[.func (.func 200) #[] #[.pointer (some ⟨NB, 0, none⟩)]] 207)).alloc (.cells #[.func (.func 202) #[] #[]] 290)) 322 #[.func (.func 243) #[] #[.pointer (some ⟨w.heap.size + 1, 0, none⟩)], .func (.func 244) #[] #[.pointer (some ⟨w.heap.size + 1, 0, none⟩)], .func (.func 245) #[] #[.pointer (some ⟨w.heap.size + 1 + 1, 0, none⟩), .pointer (some ⟨w.heap.size, 0, none⟩)]]
  rw [World.size_alloc] at hB2
  rw [World.size_alloc, World.size_alloc] at hB3
  rw [World.size_alloc, World.size_alloc, World.size_alloc] at hB4
  have d1 := hB1.cell 0
  have d2 := hB2.cell 0
  have d3 := hB3.cell 0
  have AC := Lib.hid (fun X (hX : Keeps ((((w.alloc (.cells #[.slice (some ⟨bo, 0, none⟩) 2 2] 82)).alloc (.cells #[.func (.func 200) #[] #[.pointer (some ⟨NB, 0, none⟩)]] 207)).alloc (.cells #[.func (.func 202) #[] #[]] 290)).alloc (.cells #[.func (.func 243) #[] #[.pointer (some ⟨w.heap.size + 1, 0, none⟩)], .func (.func 244) #[] #[.pointer (some ⟨w.heap.size + 1, 0, none⟩)], .func (.func 245) #[] #[.pointer (some ⟨w.heap.size + 1 + 1, 0, none⟩), .pointer (some ⟨w.heap.size, 0, none⟩)]] 322)) X) => (⟨cell_keep (hB4.cell 0) hX, cell_keep (hB4.cell 1) hX, cell_keep (hB4.cell 2) hX⟩ : _ ∧ _ ∧ _))
  have SC := Lib.hid (fun X (hX : Keeps ((((w.alloc (.cells #[.slice (some ⟨bo, 0, none⟩) 2 2] 82)).alloc (.cells #[.func (.func 200) #[] #[.pointer (some ⟨NB, 0, none⟩)]] 207)).alloc (.cells #[.func (.func 202) #[] #[]] 290)).alloc (.cells #[.func (.func 243) #[] #[.pointer (some ⟨w.heap.size + 1, 0, none⟩)], .func (.func 244) #[] #[.pointer (some ⟨w.heap.size + 1, 0, none⟩)], .func (.func 245) #[] #[.pointer (some ⟨w.heap.size + 1 + 1, 0, none⟩), .pointer (some ⟨w.heap.size, 0, none⟩)]] 322)) X) => cell_keep d1 hX)
  have R0 := Lib.hid (fun X (hX : Keeps ((((w.alloc (.cells #[.slice (some ⟨bo, 0, none⟩) 2 2] 82)).alloc (.cells #[.func (.func 200) #[] #[.pointer (some ⟨NB, 0, none⟩)]] 207)).alloc (.cells #[.func (.func 202) #[] #[]] 290)).alloc (.cells #[.func (.func 243) #[] #[.pointer (some ⟨w.heap.size + 1, 0, none⟩)], .func (.func 244) #[] #[.pointer (some ⟨w.heap.size + 1, 0, none⟩)], .func (.func 245) #[] #[.pointer (some ⟨w.heap.size + 1 + 1, 0, none⟩), .pointer (some ⟨w.heap.size, 0, none⟩)]] 322)) X) => rule243_0 (w.heap.size + 1) NB bw bc bn bo bf bl bk X (hN.below (k4.trans hX) hN.lt) (h.keep (k4.trans hX)) (hk.keep (k4.trans hX)) (cell_keep d2 hX))
  have T0 := Lib.hid (fun X (hX : Keeps ((((w.alloc (.cells #[.slice (some ⟨bo, 0, none⟩) 2 2] 82)).alloc (.cells #[.func (.func 200) #[] #[.pointer (some ⟨NB, 0, none⟩)]] 207)).alloc (.cells #[.func (.func 202) #[] #[]] 290)).alloc (.cells #[.func (.func 243) #[] #[.pointer (some ⟨w.heap.size + 1, 0, none⟩)], .func (.func 244) #[] #[.pointer (some ⟨w.heap.size + 1, 0, none⟩)], .func (.func 245) #[] #[.pointer (some ⟨w.heap.size + 1 + 1, 0, none⟩), .pointer (some ⟨w.heap.size, 0, none⟩)]] 322)) X) => twice244_0 (w.heap.size + 1) NB bw bc bn bo bf bl bk X (hN.below (k4.trans hX) hN.lt) (h.keep (k4.trans hX)) (cell_keep d2 hX))
  have G0 := Lib.hid (fun X (hX : Keeps ((((w.alloc (.cells #[.slice (some ⟨bo, 0, none⟩) 2 2] 82)).alloc (.cells #[.func (.func 200) #[] #[.pointer (some ⟨NB, 0, none⟩)]] 207)).alloc (.cells #[.func (.func 202) #[] #[]] 290)).alloc (.cells #[.func (.func 243) #[] #[.pointer (some ⟨w.heap.size + 1, 0, none⟩)], .func (.func 244) #[] #[.pointer (some ⟨w.heap.size + 1, 0, none⟩)], .func (.func 245) #[] #[.pointer (some ⟨w.heap.size + 1 + 1, 0, none⟩), .pointer (some ⟨w.heap.size, 0, none⟩)]] 322)) X) => good245_0 (w.heap.size + 1 + 1) w.heap.size NB bw bc bn bo bf bl bk X (hN.below (k4.trans hX) hN.lt) (h.keep (k4.trans hX)) (cell_keep d3 hX) (cell_keep d1 hX))
  have R1 := Lib.hid (fun X (hX : Keeps ((((w.alloc (.cells #[.slice (some ⟨bo, 0, none⟩) 2 2] 82)).alloc (.cells #[.func (.func 200) #[] #[.pointer (some ⟨NB, 0, none⟩)]] 207)).alloc (.cells #[.func (.func 202) #[] #[]] 290)).alloc (.cells #[.func (.func 243) #[] #[.pointer (some ⟨w.heap.size + 1, 0, none⟩)], .func (.func 244) #[] #[.pointer (some ⟨w.heap.size + 1, 0, none⟩)], .func (.func 245) #[] #[.pointer (some ⟨w.heap.size + 1 + 1, 0, none⟩), .pointer (some ⟨w.heap.size, 0, none⟩)]] 322)) X) => rule243_1 (w.heap.size + 1) NB bw bc bn bo bf bl bk X (hN.below (k4.trans hX) hN.lt) (h.keep (k4.trans hX)) (hk.keep (k4.trans hX)) (cell_keep d2 hX))
  have T1 := Lib.hid (fun X (hX : Keeps ((((w.alloc (.cells #[.slice (some ⟨bo, 0, none⟩) 2 2] 82)).alloc (.cells #[.func (.func 200) #[] #[.pointer (some ⟨NB, 0, none⟩)]] 207)).alloc (.cells #[.func (.func 202) #[] #[]] 290)).alloc (.cells #[.func (.func 243) #[] #[.pointer (some ⟨w.heap.size + 1, 0, none⟩)], .func (.func 244) #[] #[.pointer (some ⟨w.heap.size + 1, 0, none⟩)], .func (.func 245) #[] #[.pointer (some ⟨w.heap.size + 1 + 1, 0, none⟩), .pointer (some ⟨w.heap.size, 0, none⟩)]] 322)) X) => twice244_1 (w.heap.size + 1) NB bw bc bn bo bf bl bk X (hN.below (k4.trans hX) hN.lt) (h.keep (k4.trans hX)) (cell_keep d2 hX))
  have G1 := Lib.hid (fun X (hX : Keeps ((((w.alloc (.cells #[.slice (some ⟨bo, 0, none⟩) 2 2] 82)).alloc (.cells #[.func (.func 200) #[] #[.pointer (some ⟨NB, 0, none⟩)]] 207)).alloc (.cells #[.func (.func 202) #[] #[]] 290)).alloc (.cells #[.func (.func 243) #[] #[.pointer (some ⟨w.heap.size + 1, 0, none⟩)], .func (.func 244) #[] #[.pointer (some ⟨w.heap.size + 1, 0, none⟩)], .func (.func 245) #[] #[.pointer (some ⟨w.heap.size + 1 + 1, 0, none⟩), .pointer (some ⟨w.heap.size, 0, none⟩)]] 322)) X) => good245_1 (w.heap.size + 1 + 1) w.heap.size NB bw bc bn bo bf bl bk X (hN.below (k4.trans hX) hN.lt) (h.keep (k4.trans hX)) (cell_keep d3 hX) (cell_keep d1 hX))
  have KW := Lib.hid k4
  have KK := Lib.hid (Keeps.refl ((((w.alloc (.cells #[.slice (some ⟨bo, 0, none⟩) 2 2] 82)).alloc (.cells #[.func (.func 200) #[] #[.pointer (some ⟨NB, 0, none⟩)]] 207)).alloc (.cells #[.func (.func 202) #[] #[]] 290)).alloc (.cells #[.func (.func 243) #[] #[.pointer (some ⟨w.heap.size + 1, 0, none⟩)], .func (.func 244) #[] #[.pointer (some ⟨w.heap.size + 1, 0, none⟩)], .func (.func 245) #[] #[.pointer (some ⟨w.heap.size + 1 + 1, 0, none⟩), .pointer (some ⟨w.heap.size, 0, none⟩)]] 322)))
  have i0 := idx322_0 (.func 243) (.func 244) (.func 245) #[] #[] #[] #[.pointer (some ⟨w.heap.size + 1, 0, none⟩)] #[.pointer (some ⟨w.heap.size + 1, 0, none⟩)] #[.pointer (some ⟨w.heap.size + 1 + 1, 0, none⟩), .pointer (some ⟨w.heap.size, 0, none⟩)]
  have i1 := idx322_1 (.func 243) (.func 244) (.func 245) #[] #[] #[] #[.pointer (some ⟨w.heap.size + 1, 0, none⟩)] #[.pointer (some ⟨w.heap.size + 1, 0, none⟩)] #[.pointer (some ⟨w.heap.size + 1 + 1, 0, none⟩), .pointer (some ⟨w.heap.size, 0, none⟩)]
  have i2 := idx322_2 (.func 243) (.func 244) (.func 245) #[] #[] #[] #[.pointer (some ⟨w.heap.size + 1, 0, none⟩)] #[.pointer (some ⟨w.heap.size + 1, 0, none⟩)] #[.pointer (some ⟨w.heap.size + 1 + 1, 0, none⟩), .pointer (some ⟨w.heap.size, 0, none⟩)]
  clear hB1 hB2 hB3 hB4 d1 d2 d3 k4 hN h hk
  go_enter Tryz.func201, Tryz.ntmps201
  go_wp2_with fail
  refine wp_loop_rounds 3 ?_
  rw [rounds_succ]
  go_wp2_with fail
  refine wp_loop_rounds 4 ?_
  rw [rounds_succ]
  go_wp2_with (first | (go_at_call 243; (with_reducible refine (R0.out _ KK.out).mono ?_); rintro e wz ⟨rfl, hkk⟩; have KK2 := Lib.hid (KK.out.trans hkk); clear KK hkk; have KK := Lib.hid KK2.out; clear KK2) | (go_at_call 244; (with_reducible refine (T0.out _ KK.out).mono ?_); rintro e wz ⟨rfl, hkk⟩; have KK2 := Lib.hid (KK.out.trans hkk); clear KK hkk; have KK := Lib.hid KK2.out; clear KK2) | (go_at_call 245; (with_reducible refine (G0.out _ KK.out).mono ?_); rintro e wz ⟨rfl, hkk⟩; have KK2 := Lib.hid (KK.out.trans hkk); clear KK hkk; have KK := Lib.hid KK2.out; clear KK2))
  rw [rounds_succ]
  go_wp2_with (first | (go_at_call 243; (with_reducible refine (R0.out _ KK.out).mono ?_); rintro e wz ⟨rfl, hkk⟩; have KK2 := Lib.hid (KK.out.trans hkk); clear KK hkk; have KK := Lib.hid KK2.out; clear KK2) | (go_at_call 244; (with_reducible refine (T0.out _ KK.out).mono ?_); rintro e wz ⟨rfl, hkk⟩; have KK2 := Lib.hid (KK.out.trans hkk); clear KK hkk; have KK := Lib.hid KK2.out; clear KK2) | (go_at_call 245; (with_reducible refine (G0.out _ KK.out).mono ?_); rintro e wz ⟨rfl, hkk⟩; have KK2 := Lib.hid (KK.out.trans hkk); clear KK hkk; have KK := Lib.hid KK2.out; clear KK2))
  rw [rounds_succ]
  go_wp2_with (first | (go_at_call 243; (with_reducible refine (R0.out _ KK.out).mono ?_); rintro e wz ⟨rfl, hkk⟩; have KK2 := Lib.hid (KK.out.trans hkk); clear KK hkk; have KK := Lib.hid KK2.out; clear KK2) | (go_at_call 244; (with_reducible refine (T0.out _ KK.out).mono ?_); rintro e wz ⟨rfl, hkk⟩; have KK2 := Lib.hid (KK.out.trans hkk); clear KK hkk; have KK := Lib.hid KK2.out; clear KK2) | (go_at_call 245; (with_reducible refine (G0.out _ KK.out).mono ?_); rintro e wz ⟨rfl, hkk⟩; have KK2 := Lib.hid (KK.out.trans hkk); clear KK hkk; have KK := Lib.hid KK2.out; clear KK2))
  rw [rounds_succ]
  go_wp2_with (first | (go_at_call 243; (with_reducible refine (R0.out _ KK.out).mono ?_); rintro e wz ⟨rfl, hkk⟩; have KK2 := Lib.hid (KK.out.trans hkk); clear KK hkk; have KK := Lib.hid KK2.out; clear KK2) | (go_at_call 244; (with_reducible refine (T0.out _ KK.out).mono ?_); rintro e wz ⟨rfl, hkk⟩; have KK2 := Lib.hid (KK.out.trans hkk); clear KK hkk; have KK := Lib.hid KK2.out; clear KK2) | (go_at_call 245; (with_reducible refine (G0.out _ KK.out).mono ?_); rintro e wz ⟨rfl, hkk⟩; have KK2 := Lib.hid (KK.out.trans hkk); clear KK hkk; have KK := Lib.hid KK2.out; clear KK2))
  obtain ⟨a0, a1, a2⟩ := AC.out _ KK.out
  rw [rounds_succ]
  go_wp2_with fail
  refine wp_loop_rounds 4 ?_
  rw [rounds_succ]
  go_wp2_with (first | (go_at_call 243; (with_reducible refine (R1.out _ KK.out).mono ?_); rintro e wz ⟨rfl, hkk⟩; have KK2 := Lib.hid (KK.out.trans hkk); clear KK hkk; have KK := Lib.hid KK2.out; clear KK2) | (go_at_call 244; (with_reducible refine (T1.out _ KK.out).mono ?_); rintro e wz ⟨rfl, hkk⟩; have KK2 := Lib.hid (KK.out.trans hkk); clear KK hkk; have KK := Lib.hid KK2.out; clear KK2) | (go_at_call 245; (with_reducible refine (G1.out _ KK.out).mono ?_); rintro e wz ⟨rfl, hkk⟩; have KK2 := Lib.hid (KK.out.trans hkk); clear KK hkk; have KK := Lib.hid KK2.out; clear KK2))
  rw [rounds_succ]
  go_wp2_with (first | (go_at_call 243; (with_reducible refine (R1.out _ KK.out).mono ?_); rintro e wz ⟨rfl, hkk⟩; have KK2 := Lib.hid (KK.out.trans hkk); clear KK hkk; have KK := Lib.hid KK2.out; clear KK2) | (go_at_call 244; (with_reducible refine (T1.out _ KK.out).mono ?_); rintro e wz ⟨rfl, hkk⟩; have KK2 := Lib.hid (KK.out.trans hkk); clear KK hkk; have KK := Lib.hid KK2.out; clear KK2) | (go_at_call 245; (with_reducible refine (G1.out _ KK.out).mono ?_); rintro e wz ⟨rfl, hkk⟩; have KK2 := Lib.hid (KK.out.trans hkk); clear KK hkk; have KK := Lib.hid KK2.out; clear KK2))
  rw [rounds_succ]
  go_wp2_with (first | (go_at_call 243; (with_reducible refine (R1.out _ KK.out).mono ?_); rintro e wz ⟨rfl, hkk⟩; have KK2 := Lib.hid (KK.out.trans hkk); clear KK hkk; have KK := Lib.hid KK2.out; clear KK2) | (go_at_call 244; (with_reducible refine (T1.out _ KK.out).mono ?_); rintro e wz ⟨rfl, hkk⟩; have KK2 := Lib.hid (KK.out.trans hkk); clear KK hkk; have KK := Lib.hid KK2.out; clear KK2) | (go_at_call 245; (with_reducible refine (G1.out _ KK.out).mono ?_); rintro e wz ⟨rfl, hkk⟩; have KK2 := Lib.hid (KK.out.trans hkk); clear KK hkk; have KK := Lib.hid KK2.out; clear KK2))
  rw [rounds_succ]
  go_wp2_with (first | (go_at_call 243; (with_reducible refine (R1.out _ KK.out).mono ?_); rintro e wz ⟨rfl, hkk⟩; have KK2 := Lib.hid (KK.out.trans hkk); clear KK hkk; have KK := Lib.hid KK2.out; clear KK2) | (go_at_call 244; (with_reducible refine (T1.out _ KK.out).mono ?_); rintro e wz ⟨rfl, hkk⟩; have KK2 := Lib.hid (KK.out.trans hkk); clear KK hkk; have KK := Lib.hid KK2.out; clear KK2) | (go_at_call 245; (with_reducible refine (G1.out _ KK.out).mono ?_); rintro e wz ⟨rfl, hkk⟩; have KK2 := Lib.hid (KK.out.trans hkk); clear KK hkk; have KK := Lib.hid KK2.out; clear KK2))
  have sc := SC.out _ KK.out
  rw [rounds_succ]
  go_wp2_with fail
  go_ret
  exact ⟨rfl, KW.out.trans KK.out⟩
set_option maxRecDepth 100000 in
set_option maxHeartbeats 8000000 in
theorem rule257_0 (FB NB bw bc bn bo bf bl bk : Nat) (w : World) (hN : Blk w NB 87 (netC bc bn bo bf bl bk)) (h : Net w bw bc bn bo bf bl bk) (hk : Kw w) (hf : w.cell? ⟨FB, 0, none⟩ = some (.func (.func 211) #[] #[.pointer (some ⟨NB, 0, none⟩)])) : Calls Tryz.prog 257 #[.int .i64 0, .pointer (some ⟨FB, 0, none⟩)] w fun e w' => e = .returned (.int .i64 0) ∧ Keeps w w' := by
  have H1 := Lib.hid (name211_0 NB bw bc bn bo bf bl bk w hN h)
  have H2 := Lib.hid (isName240 107 w hk (by decide))
  clear hN h hk
  go_enter Tryz.func257, Tryz.ntmps257
  go_wp2_with (first | (go_at_call 211; (with_reducible refine H1.out.mono ?_); rintro e w1 ⟨rfl, rfl⟩) | (go_at_call 240; (with_reducible refine H2.out.mono ?_); rintro e w1 ⟨rfl, hkk⟩; have K := Lib.hid hkk; clear hkk))
  go_ret
  exact ⟨rfl, K.out⟩
set_option maxRecDepth 100000 in
set_option maxHeartbeats 8000000 in
theorem twice258_0 (FB NB bw bc bn bo bf bl bk : Nat) (w : World) (hN : Blk w NB 87 (netC bc bn bo bf bl bk)) (h : Net w bw bc bn bo bf bl bk) (hf : w.cell? ⟨FB, 0, none⟩ = some (.func (.func 211) #[] #[.pointer (some ⟨NB, 0, none⟩)])) : Calls Tryz.prog 258 #[.int .i64 0, .pointer (some ⟨FB, 0, none⟩)] w fun e w' => e = .returned (.int .i64 0) ∧ Keeps w w' := by
  clear hN h
  have K := Lib.hid (Keeps.refl w)
  go_enter Tryz.func258, Tryz.ntmps258
  go_wp2_with fail
  refine wp_loop_rounds 1 ?_
  rw [rounds_succ]
  go_wp2_with fail
  go_ret
  exact ⟨rfl, K.out⟩
set_option maxRecDepth 100000 in
set_option maxHeartbeats 8000000 in
theorem good259_0 (GB TB NB bw bc bn bo bf bl bk : Nat) (w : World) (hN : Blk w NB 87 (netC bc bn bo bf bl bk)) (h : Net w bw bc bn bo bf bl bk) (hf : w.cell? ⟨GB, 0, none⟩ = some (.func (.func 213) #[] #[])) (ht : w.cell? ⟨TB, 0, none⟩ = some (.slice (some ⟨bk, 0, none⟩) 1 1)) : Calls Tryz.prog 259 #[.int .i64 0, .pointer (some ⟨GB, 0, none⟩), .pointer (some ⟨TB, 0, none⟩)] w fun e w' => e = .returned (.int .i64 0) ∧ Keeps w w' := by
  have c0 := h.cl.cell 0
  have c1 := h.cl.cell 1
  have c2 := h.cl.cell 2
  have H1 := Lib.hid (show ∀ X, Keeps w X → Calls Tryz.prog 213 #[.agg #[.string ⟨#[107]⟩, .int .i64 1020, .int .i64 720]] X (BoolPost true X) from fun X hX => class213 ⟨#[107]⟩ 1020 720 X (by decide) (by decide))
  clear hN h
  have K := Lib.hid ((Keeps.refl w).drew)
  go_enter Tryz.func259, Tryz.ntmps259
  go_wp2_with fail
  go_region_with (go_at_call 213; (with_reducible refine (H1.out _ K.out).mono ?_); rintro e w1 ⟨rfl, hkk⟩; have K2 := Lib.hid (K.out.trans hkk); clear hkk)
  all_goals (go_wp2_with fail; go_ret; exact ⟨rfl, K2.out⟩)
set_option maxRecDepth 100000 in
set_option maxHeartbeats 8000000 in
theorem check212 (NB bw bc bn bo bf bl bk : Nat) (w : World) (hN : Blk w NB 87 (netC bc bn bo bf bl bk)) (h : Net w bw bc bn bo bf bl bk) (hk : Kw w) : Calls Tryz.prog 212 #[.int .i64 5, .int .i64 4, .slice (some ⟨bk, 0, none⟩) 1 1, .func (.func 211) #[] #[.pointer (some ⟨NB, 0, none⟩)], .func (.func 213) #[] #[]] w fun e w' => e = .returned (.slice none 0 0) ∧ Keeps w w' := by
  have k4 := ((((Keeps.refl w).alloc (.cells #[.slice (some ⟨bk, 0, none⟩) 1 1] 85)).alloc (.cells #[.func (.func 211) #[] #[.pointer (some ⟨NB, 0, none⟩)]] 207)).alloc (.cells #[.func (.func 213) #[] #[]] 298)).alloc (.cells #[.func (.func 257) #[] #[.pointer (some ⟨w.heap.size + 1, 0, none⟩)], .func (.func 258) #[] #[.pointer (some ⟨w.heap.size + 1, 0, none⟩)], .func (.func 259) #[] #[.pointer (some ⟨w.heap.size + 1 + 1, 0, none⟩), .pointer (some ⟨w.heap.size, 0, none⟩)]] 322)
  have hB1 := (((Blk.new w 85 #[.slice (some ⟨bk, 0, none⟩) 1 1]).alloc (.cells #[.func (.func 211) #[] #[.pointer (some ⟨NB, 0, none⟩)]] 207)).alloc (.cells #[.func (.func 213) #[] #[]] 298)).alloc (.cells #[.func (.func 257) #[] #[.pointer (some ⟨w.heap.size + 1, 0, none⟩)], .func (.func 258) #[] #[.pointer (some ⟨w.heap.size + 1, 0, none⟩)], .func (.func 259) #[] #[.pointer (some ⟨w.heap.size + 1 + 1, 0, none⟩), .pointer (some ⟨w.heap.size, 0, none⟩)]] 322)
  have hB2 := ((Blk.new (w.alloc (.cells #[.slice (some ⟨bk, 0, none⟩) 1 1] 85)) 207 #[.func (.func 211) #[] #[.pointer (some ⟨NB, 0, none⟩)]]).alloc (.cells #[.func (.func 213) #[] #[]] 298)).alloc (.cells #[.func (.func 257) #[] #[.pointer (some ⟨w.heap.size + 1, 0, none⟩)], .func (.func 258) #[] #[.pointer (some ⟨w.heap.size + 1, 0, none⟩)], .func (.func 259) #[] #[.pointer (some ⟨w.heap.size + 1 + 1, 0, none⟩), .pointer (some ⟨w.heap.size, 0, none⟩)]] 322)
  have hB3 := (Blk.new ((w.alloc (.cells #[.slice (some ⟨bk, 0, none⟩) 1 1] 85)).alloc (.cells #[.func (.func 211) #[] #[.pointer (some ⟨NB, 0, none⟩)]] 207)) 298 #[.func (.func 213) #[] #[]]).alloc (.cells #[.func (.func 257) #[] #[.pointer (some ⟨w.heap.size + 1, 0, none⟩)], .func (.func 258) #[] #[.pointer (some ⟨w.heap.size + 1, 0, none⟩)], .func (.func 259) #[] #[.pointer (some ⟨w.heap.size + 1 + 1, 0, none⟩), .pointer (some ⟨w.heap.size, 0, none⟩)]] 322)
  have hB4 := Blk.new (((w.alloc (.cells #[.slice (some ⟨bk, 0, none⟩) 1 1] 85)).alloc (.cells #[.func (.func 211) #[] #[.pointer (some ⟨NB, 0, none⟩)]] 207)).alloc (.cells #[.func (.func 213) #[] #[]] 298)) 322 #[.func (.func 257) #[] #[.pointer (some ⟨w.heap.size + 1, 0, none⟩)], .func (.func 258) #[] #[.pointer (some ⟨w.heap.size + 1, 0, none⟩)], .func (.func 259) #[] #[.pointer (some ⟨w.heap.size + 1 + 1, 0, none⟩), .pointer (some ⟨w.heap.size, 0, none⟩)]]
  rw [World.size_alloc] at hB2
  rw [World.size_alloc, World.size_alloc] at hB3
  rw [World.size_alloc, World.size_alloc, World.size_alloc] at hB4
  have d1 := hB1.cell 0
  have d2 := hB2.cell 0
  have d3 := hB3.cell 0
  have AC := Lib.hid (fun X (hX : Keeps ((((w.alloc (.cells #[.slice (some ⟨bk, 0, none⟩) 1 1] 85)).alloc (.cells #[.func (.func 211) #[] #[.pointer (some ⟨NB, 0, none⟩)]] 207)).alloc (.cells #[.func (.func 213) #[] #[]] 298)).alloc (.cells #[.func (.func 257) #[] #[.pointer (some ⟨w.heap.size + 1, 0, none⟩)], .func (.func 258) #[] #[.pointer (some ⟨w.heap.size + 1, 0, none⟩)], .func (.func 259) #[] #[.pointer (some ⟨w.heap.size + 1 + 1, 0, none⟩), .pointer (some ⟨w.heap.size, 0, none⟩)]] 322)) X) => (⟨cell_keep (hB4.cell 0) hX, cell_keep (hB4.cell 1) hX, cell_keep (hB4.cell 2) hX⟩ : _ ∧ _ ∧ _))
  have SC := Lib.hid (fun X (hX : Keeps ((((w.alloc (.cells #[.slice (some ⟨bk, 0, none⟩) 1 1] 85)).alloc (.cells #[.func (.func 211) #[] #[.pointer (some ⟨NB, 0, none⟩)]] 207)).alloc (.cells #[.func (.func 213) #[] #[]] 298)).alloc (.cells #[.func (.func 257) #[] #[.pointer (some ⟨w.heap.size + 1, 0, none⟩)], .func (.func 258) #[] #[.pointer (some ⟨w.heap.size + 1, 0, none⟩)], .func (.func 259) #[] #[.pointer (some ⟨w.heap.size + 1 + 1, 0, none⟩), .pointer (some ⟨w.heap.size, 0, none⟩)]] 322)) X) => cell_keep d1 hX)
  have R0 := Lib.hid (fun X (hX : Keeps ((((w.alloc (.cells #[.slice (some ⟨bk, 0, none⟩) 1 1] 85)).alloc (.cells #[.func (.func 211) #[] #[.pointer (some ⟨NB, 0, none⟩)]] 207)).alloc (.cells #[.func (.func 213) #[] #[]] 298)).alloc (.cells #[.func (.func 257) #[] #[.pointer (some ⟨w.heap.size + 1, 0, none⟩)], .func (.func 258) #[] #[.pointer (some ⟨w.heap.size + 1, 0, none⟩)], .func (.func 259) #[] #[.pointer (some ⟨w.heap.size + 1 + 1, 0, none⟩), .pointer (some ⟨w.heap.size, 0, none⟩)]] 322)) X) => rule257_0 (w.heap.size + 1) NB bw bc bn bo bf bl bk X (hN.below (k4.trans hX) hN.lt) (h.keep (k4.trans hX)) (hk.keep (k4.trans hX)) (cell_keep d2 hX))
  have T0 := Lib.hid (fun X (hX : Keeps ((((w.alloc (.cells #[.slice (some ⟨bk, 0, none⟩) 1 1] 85)).alloc (.cells #[.func (.func 211) #[] #[.pointer (some ⟨NB, 0, none⟩)]] 207)).alloc (.cells #[.func (.func 213) #[] #[]] 298)).alloc (.cells #[.func (.func 257) #[] #[.pointer (some ⟨w.heap.size + 1, 0, none⟩)], .func (.func 258) #[] #[.pointer (some ⟨w.heap.size + 1, 0, none⟩)], .func (.func 259) #[] #[.pointer (some ⟨w.heap.size + 1 + 1, 0, none⟩), .pointer (some ⟨w.heap.size, 0, none⟩)]] 322)) X) => twice258_0 (w.heap.size + 1) NB bw bc bn bo bf bl bk X (hN.below (k4.trans hX) hN.lt) (h.keep (k4.trans hX)) (cell_keep d2 hX))
  have G0 := Lib.hid (fun X (hX : Keeps ((((w.alloc (.cells #[.slice (some ⟨bk, 0, none⟩) 1 1] 85)).alloc (.cells #[.func (.func 211) #[] #[.pointer (some ⟨NB, 0, none⟩)]] 207)).alloc (.cells #[.func (.func 213) #[] #[]] 298)).alloc (.cells #[.func (.func 257) #[] #[.pointer (some ⟨w.heap.size + 1, 0, none⟩)], .func (.func 258) #[] #[.pointer (some ⟨w.heap.size + 1, 0, none⟩)], .func (.func 259) #[] #[.pointer (some ⟨w.heap.size + 1 + 1, 0, none⟩), .pointer (some ⟨w.heap.size, 0, none⟩)]] 322)) X) => good259_0 (w.heap.size + 1 + 1) w.heap.size NB bw bc bn bo bf bl bk X (hN.below (k4.trans hX) hN.lt) (h.keep (k4.trans hX)) (cell_keep d3 hX) (cell_keep d1 hX))
  have KW := Lib.hid k4
  have KK := Lib.hid (Keeps.refl ((((w.alloc (.cells #[.slice (some ⟨bk, 0, none⟩) 1 1] 85)).alloc (.cells #[.func (.func 211) #[] #[.pointer (some ⟨NB, 0, none⟩)]] 207)).alloc (.cells #[.func (.func 213) #[] #[]] 298)).alloc (.cells #[.func (.func 257) #[] #[.pointer (some ⟨w.heap.size + 1, 0, none⟩)], .func (.func 258) #[] #[.pointer (some ⟨w.heap.size + 1, 0, none⟩)], .func (.func 259) #[] #[.pointer (some ⟨w.heap.size + 1 + 1, 0, none⟩), .pointer (some ⟨w.heap.size, 0, none⟩)]] 322)))
  have i0 := idx322_0 (.func 257) (.func 258) (.func 259) #[] #[] #[] #[.pointer (some ⟨w.heap.size + 1, 0, none⟩)] #[.pointer (some ⟨w.heap.size + 1, 0, none⟩)] #[.pointer (some ⟨w.heap.size + 1 + 1, 0, none⟩), .pointer (some ⟨w.heap.size, 0, none⟩)]
  have i1 := idx322_1 (.func 257) (.func 258) (.func 259) #[] #[] #[] #[.pointer (some ⟨w.heap.size + 1, 0, none⟩)] #[.pointer (some ⟨w.heap.size + 1, 0, none⟩)] #[.pointer (some ⟨w.heap.size + 1 + 1, 0, none⟩), .pointer (some ⟨w.heap.size, 0, none⟩)]
  have i2 := idx322_2 (.func 257) (.func 258) (.func 259) #[] #[] #[] #[.pointer (some ⟨w.heap.size + 1, 0, none⟩)] #[.pointer (some ⟨w.heap.size + 1, 0, none⟩)] #[.pointer (some ⟨w.heap.size + 1 + 1, 0, none⟩), .pointer (some ⟨w.heap.size, 0, none⟩)]
  clear hB1 hB2 hB3 hB4 d1 d2 d3 k4 hN h hk
  go_enter Tryz.func212, Tryz.ntmps212
  go_wp2_with fail
  refine wp_loop_rounds 2 ?_
  rw [rounds_succ]
  go_wp2_with fail
  refine wp_loop_rounds 4 ?_
  rw [rounds_succ]
  go_wp2_with (first | (go_at_call 257; (with_reducible refine (R0.out _ KK.out).mono ?_); rintro e wz ⟨rfl, hkk⟩; have KK2 := Lib.hid (KK.out.trans hkk); clear KK hkk; have KK := Lib.hid KK2.out; clear KK2) | (go_at_call 258; (with_reducible refine (T0.out _ KK.out).mono ?_); rintro e wz ⟨rfl, hkk⟩; have KK2 := Lib.hid (KK.out.trans hkk); clear KK hkk; have KK := Lib.hid KK2.out; clear KK2) | (go_at_call 259; (with_reducible refine (G0.out _ KK.out).mono ?_); rintro e wz ⟨rfl, hkk⟩; have KK2 := Lib.hid (KK.out.trans hkk); clear KK hkk; have KK := Lib.hid KK2.out; clear KK2))
  rw [rounds_succ]
  go_wp2_with (first | (go_at_call 257; (with_reducible refine (R0.out _ KK.out).mono ?_); rintro e wz ⟨rfl, hkk⟩; have KK2 := Lib.hid (KK.out.trans hkk); clear KK hkk; have KK := Lib.hid KK2.out; clear KK2) | (go_at_call 258; (with_reducible refine (T0.out _ KK.out).mono ?_); rintro e wz ⟨rfl, hkk⟩; have KK2 := Lib.hid (KK.out.trans hkk); clear KK hkk; have KK := Lib.hid KK2.out; clear KK2) | (go_at_call 259; (with_reducible refine (G0.out _ KK.out).mono ?_); rintro e wz ⟨rfl, hkk⟩; have KK2 := Lib.hid (KK.out.trans hkk); clear KK hkk; have KK := Lib.hid KK2.out; clear KK2))
  rw [rounds_succ]
  go_wp2_with (first | (go_at_call 257; (with_reducible refine (R0.out _ KK.out).mono ?_); rintro e wz ⟨rfl, hkk⟩; have KK2 := Lib.hid (KK.out.trans hkk); clear KK hkk; have KK := Lib.hid KK2.out; clear KK2) | (go_at_call 258; (with_reducible refine (T0.out _ KK.out).mono ?_); rintro e wz ⟨rfl, hkk⟩; have KK2 := Lib.hid (KK.out.trans hkk); clear KK hkk; have KK := Lib.hid KK2.out; clear KK2) | (go_at_call 259; (with_reducible refine (G0.out _ KK.out).mono ?_); rintro e wz ⟨rfl, hkk⟩; have KK2 := Lib.hid (KK.out.trans hkk); clear KK hkk; have KK := Lib.hid KK2.out; clear KK2))
  rw [rounds_succ]
  go_wp2_with (first | (go_at_call 257; (with_reducible refine (R0.out _ KK.out).mono ?_); rintro e wz ⟨rfl, hkk⟩; have KK2 := Lib.hid (KK.out.trans hkk); clear KK hkk; have KK := Lib.hid KK2.out; clear KK2) | (go_at_call 258; (with_reducible refine (T0.out _ KK.out).mono ?_); rintro e wz ⟨rfl, hkk⟩; have KK2 := Lib.hid (KK.out.trans hkk); clear KK hkk; have KK := Lib.hid KK2.out; clear KK2) | (go_at_call 259; (with_reducible refine (G0.out _ KK.out).mono ?_); rintro e wz ⟨rfl, hkk⟩; have KK2 := Lib.hid (KK.out.trans hkk); clear KK hkk; have KK := Lib.hid KK2.out; clear KK2))
  have sc := SC.out _ KK.out
  rw [rounds_succ]
  go_wp2_with fail
  go_ret
  exact ⟨rfl, KW.out.trans KK.out⟩
end Go.Proofs.YthkmpegpmpdhaaaGreatDoor
