/- Part of the proof of TopOwnItem. Conditions: as stated in each theorem. -/
import Derived.Test.YthkmpegpmpdhaaaGreatDoorZNi
import Derived.Test.YthkmpegpmpdhaaaGreatDoorProg
import Derived.WalkMore
import Derived.LoopN
import Derived.Lib.ConvBytes
import Derived.Maps.OwnIn
import Derived.Deep.LoopGhost
import Derived.RangeFuncNested
import Derived.RangeFuncCalls
import Derived.RangeFuncLeaves
import Derived.RangeFuncWrites
import Derived.Shelf.Abstract
import Derived.Shelf.RegionOpen
import Derived.OwnWalkIn
import Derived.TacticsInMore
import Derived.LoopNIn
import Derived.LoopIn
import Derived.RangeFuncBound
import Derived.WalkKit
import Derived.WalkSpells
import Derived.WalkLawsBesides
import Derived.Laws.EntriesVeiled
import Derived.ProofKit
import Derived.OpenShut
import Derived.Lib.Hide
import Derived.BigQuiet
import Derived.Deep.QuietTactic
import Derived.Deep.CutRange
import Derived.StillTailTactics
import Derived.Lib.SliceRun
import Derived.RangeFuncRecord
import Derived.Carry
import Derived.ChangeKeysEq
import Derived.Below
import Derived.Laws.OwnMore
import Derived.Deep.AppendLies
import Derived.Deep.Draws
import Derived.Laws.Rows
import Derived.Maps.AppendAt
import Derived.RegionTactic
import Derived.OwnWalk
import Derived.Deep.RegionHeld3
namespace Go.Proofs.YthkmpegpmpdhaaaGreatDoor
open Go.Shelf Go.ChangeShapes Go.WideShapes Go.ChangeAt Go.RowKit
set_option linter.unusedSimpArgs false
set_option linter.unusedVariables false
set_option maxHeartbeats 4000000 in
theorem usable216 (bw bc bn bo bf bl bk q : Nat) (w : World) (h : Net w bw bc bn bo bf bl bk) (hk : Kw w) (hq : Blk w q 3 #[.int .i64 110]) : Calls Tryz.prog 216 #[.agg (netC bc bn bo bf bl bk), .int .i64 0, .slice (some ⟨q, 0, none⟩) 1 1] w fun e w' => e = .returned (.bool true) ∧ Keeps w w' := by
  have k1 := (Keeps.refl w).alloc (.cells (netC bc bn bo bf bl bk) 87)
  have hb := Blk.new w 87 (netC bc bn bo bf bl bk)
  have HK := Lib.hid k1
  have c0 := hb.cell 0; have c1 := hb.cell 1; have c2 := hb.cell 2; have c3 := hb.cell 3; have c4 := hb.cell 4; have c5 := hb.cell 5
  have q0 := (hq.kp k1).cell 0
  have C1 := Lib.hid (check120 bw bc bn bo bf bl bk _ (h.keep k1) (hk.keep k1))
  clear h hk hb k1 hq
  go_enter Tryz.func216, Tryz.ntmps216
  go_wp2_with fail
  refine wp_loop_rounds 2 ?_
  rw [rounds_succ]
  go_wp2_with fail
  rw [rounds_succ]
  go_wp2_with (go_at_call 120; (with_reducible refine C1.out.mono ?_); rintro e wz ⟨rfl, hkk⟩; have KK := Lib.hid hkk; clear hkk)
  go_ret
  exact ⟨rfl, HK.out.trans KK.out⟩
theorem depart166 (bw bc bn bo bf bl bk : Nat) (w : World) (h : Net w bw bc bn bo bf bl bk) (hk : Kw w) : Calls Tryz.prog 166 #[.agg (netC bc bn bo bf bl bk), .int .i64 0, .int .i64 110] w fun e w' => e = .returned (.tuple #[.int .i64 480, .int .i64 0]) ∧ Keeps w w' := by
  have k1 := (Keeps.refl w).alloc (.cells (netC bc bn bo bf bl bk) 87)
  have k2 := k1.alloc (.cells #[.int .i64 110] 3)
  have hb := Blk.new w 87 (netC bc bn bo bf bl bk)
  have hq := Blk.new (w.alloc (.cells (netC bc bn bo bf bl bk) 87)) 3 #[.int .i64 110]
  simp only [World.size_alloc] at hq
  have HK := Lib.hid k2
  have c0 := hb.cell 0; have c1 := hb.cell 1; have c2 := hb.cell 2; have c3 := hb.cell 3; have c4 := hb.cell 4; have c5 := hb.cell 5
  have C1 := Lib.hid (usable216 bw bc bn bo bf bl bk (w.heap.size + 1) _ (h.keep k2) (hk.keep k2) hq)
  have C2 := Lib.hid (fun X (hX : Keeps ((w.alloc (.cells (netC bc bn bo bf bl bk) 87)).alloc (.cells #[.int .i64 110] 3)) X) => first217 bw bc bn bo bf bl bk X (h.keep (k2.trans hX)))
  have HB := Lib.hid (fun X (hX : Keeps ((w.alloc (.cells (netC bc bn bo bf bl bk) 87)).alloc (.cells #[.int .i64 110] 3)) X) => (⟨((hb.alloc _).kp hX).cell 0, ((hb.alloc _).kp hX).cell 1, ((hb.alloc _).kp hX).cell 2, ((hb.alloc _).kp hX).cell 3, ((hb.alloc _).kp hX).cell 4, ((hb.alloc _).kp hX).cell 5⟩ : X.cell? ⟨w.heap.size, 0, none⟩ = some (.slice (some ⟨bc, 0, none⟩) 1 1) ∧ X.cell? ⟨w.heap.size, 1, none⟩ = some (.slice (some ⟨bn, 0, none⟩) 1 1) ∧ X.cell? ⟨w.heap.size, 2, none⟩ = some (.slice (some ⟨bo, 0, none⟩) 2 2) ∧ X.cell? ⟨w.heap.size, 3, none⟩ = some (.slice (some ⟨bf, 0, none⟩) 2 2) ∧ X.cell? ⟨w.heap.size, 4, none⟩ = some (.slice (some ⟨bl, 0, none⟩) 2 2) ∧ X.cell? ⟨w.heap.size, 5, none⟩ = some (.slice (some ⟨bk, 0, none⟩) 1 1)))
  clear h hk hb k1 k2 hq
  go_enter Tryz.func166, Tryz.ntmps166
  go_wp2_with (first | (go_at_call 216; (with_reducible refine C1.out.mono ?_); rintro e wz ⟨rfl, hkk⟩; have KK := Lib.hid hkk; obtain ⟨d0, d1, d2, d3, d4, d5⟩ := HB.out _ hkk; clear hkk c0 c1 c2 c3 c4 c5) | (go_at_call 217; (with_reducible refine (C2.out _ KK.out).mono ?_); rintro e wy ⟨rfl, hkk⟩; have KK2 := Lib.hid hkk; clear hkk))
  refine bodyPost_ret (v := .tuple #[.int .i64 480, .int .i64 0]) ?_ rfl ?_
  · simp [results, Tryz.results166, go_sem]
  · exact ⟨rfl, (HK.out.trans KK.out).trans KK2.out⟩
end Go.Proofs.YthkmpegpmpdhaaaGreatDoor
