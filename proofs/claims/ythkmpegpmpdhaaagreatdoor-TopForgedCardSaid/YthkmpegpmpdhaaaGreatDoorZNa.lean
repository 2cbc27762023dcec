/- Part of the proof of TopOwnItem. Conditions: as stated in each theorem. -/
import Derived.Test.YthkmpegpmpdhaaaGreatDoorZW
import Derived.Test.YthkmpegpmpdhaaaGreatDoorProg
import Derived.WalkMore
import Derived.Maps.OwnIn
import Derived.Deep.LoopGhost
import Derived.RangeFuncNested
import Derived.RangeFuncCalls
import Derived.RangeFuncLeaves
import Derived.RangeFuncWrites
import Derived.Shelf.Abstract
import Derived.Shelf.RegionOpen
import Derived.OwnWalkIn
import Derived.TacticsInMore
import Derived.LoopNIn
import Derived.LoopIn
import Derived.RangeFuncBound
import Derived.WalkKit
import Derived.WalkSpells
import Derived.WalkLawsBesides
import Derived.Laws.EntriesVeiled
import Derived.ProofKit
import Derived.OpenShut
import Derived.Lib.Hide
import Derived.BigQuiet
import Derived.Deep.QuietTactic
import Derived.Deep.CutRange
import Derived.StillTailTactics
import Derived.Lib.SliceRun
import Derived.RangeFuncRecord
import Derived.Carry
import Derived.ChangeKeysEq
import Derived.Below
import Derived.Laws.OwnMore
import Derived.Deep.AppendLies
import Derived.Deep.Draws
import Derived.Laws.Rows
import Derived.Maps.AppendAt
import Derived.RegionTactic
import Derived.OwnWalk
import Derived.Deep.RegionHeld3
namespace Go.Proofs.YthkmpegpmpdhaaaGreatDoor
open Go.Shelf Go.ChangeShapes Go.WideShapes Go.ChangeAt Go.RowKit
set_option linter.unusedSimpArgs false
set_option linter.unusedVariables false
/-- The example's network, in memory. -/
structure Net (W : World) (bw bc bn bo bf bl bk : Nat) : Prop where
  wk : Blk W bw 4 #[.bool true, .bool true, .bool true, .bool true, .bool true, .bool false, .bool false]
  ca : Blk W bc 154 #[.int .i64 0, .slice (some ⟨bw, 0, none⟩) 7 7, .slice none 0 0]
  na : Blk W bn 9 #[.string ⟨#[99]⟩]
  op : Blk W bo 156 #[.string ⟨#[112]⟩, .string ⟨#[113]⟩]
  of_ : Blk W bf 158 #[.string ⟨#[97]⟩, .int .i64 0, .int .i64 0, .int .i64 2, .int .i64 1, .int .i64 10, .slice none 0 0, .string ⟨#[98]⟩, .int .i64 1, .int .i64 0, .int .i64 2, .int .i64 1, .int .i64 10, .slice none 0 0]
  li : Blk W bl 160 #[.string ⟨#[108]⟩, .int .i64 0, .int .i64 1, .int .i64 480, .int .i64 120, .int .i64 1, .string ⟨#[109]⟩, .int .i64 1, .int .i64 0, .int .i64 600, .int .i64 60, .int .i64 1]
  cl : Blk W bk 162 #[.string ⟨#[107]⟩, .int .i64 1020, .int .i64 720]
theorem Net.keep {W W' : World} {bw bc bn bo bf bl bk : Nat} (h : Net W bw bc bn bo bf bl bk) (hk : Keeps W W') : Net W' bw bc bn bo bf bl bk :=
  ⟨h.wk.below hk h.wk.lt, h.ca.below hk h.ca.lt, h.na.below hk h.na.lt, h.op.below hk h.op.lt, h.of_.below hk h.of_.lt, h.li.below hk h.li.lt, h.cl.below hk h.cl.lt⟩
/-- The cells of the network's value. -/
abbrev netC (bc bn bo bf bl bk : Nat) : Array Value := #[.slice (some ⟨bc, 0, none⟩) 1 1, .slice (some ⟨bn, 0, none⟩) 1 1, .slice (some ⟨bo, 0, none⟩) 2 2, .slice (some ⟨bf, 0, none⟩) 2 2, .slice (some ⟨bl, 0, none⟩) 2 2, .slice (some ⟨bk, 0, none⟩) 1 1]
theorem blk_at {w : World} {k : Nat} {t : TypeId} {cs : Array Value} (X : World) (hk : X.heap.size = k) : Blk (X.alloc (.cells cs t)) k t cs := by subst hk; exact Blk.new X t cs
set_option maxRecDepth 100000 in
set_option maxHeartbeats 8000000 in
theorem network29 (w : World) : Calls Tryz.prog 29 #[] w fun e w' => ∃ bw bc bn bo bf bl bk, e = .returned (.agg (netC bc bn bo bf bl bk)) ∧ Net w' bw bc bn bo bf bl bk ∧ Keeps w w' := by
  have HB := Lib.hid (show ∀ (N : Nat) (a0 a1 : Array Value), w.heap.size = N → Blk
    (((((((((w.alloc (.cells a0 87)).alloc (.cells #[.bool true, .bool true, .bool true, .bool true, .bool true, .bool false, .bool false] 4)).alloc (.cells #[.int .i64 0, .slice (some ⟨N + 1, 0, none⟩) 7 7, .slice none 0 0] 154)).alloc (.cells #[.string ⟨#[99]⟩] 9)).alloc (.cells #[.string ⟨#[112]⟩, .string ⟨#[113]⟩] 156)).alloc (.cells a1 87)).alloc (.cells #[.string ⟨#[97]⟩, .int .i64 0, .int .i64 0, .int .i64 2, .int .i64 1, .int .i64 10, .slice none 0 0, .string ⟨#[98]⟩, .int .i64 1, .int .i64 0, .int .i64 2, .int .i64 1, .int .i64 10, .slice none 0 0] 158)).alloc (.cells #[.string ⟨#[108]⟩, .int .i64 0, .int .i64 1, .int .i64 480, .int .i64 120, .int .i64 1, .string ⟨#[109]⟩, .int .i64 1, .int .i64 0, .int .i64 600, .int .i64 60, .int .i64 1] 160)).alloc (.cells #[.string ⟨#[107]⟩, .int .i64 1020, .int .i64 720] 162)) N 87 a0
    from fun N a0 a1 hN => ((((((((blk_at (w := w) _ hN).alloc _).alloc _).alloc _).alloc _).alloc _).alloc _).alloc _).alloc _)
  have HP := Lib.hid (show ∀ (N : Nat) (a0 a1 : Array Value), w.heap.size = N → (fun W : World => Net W (N + 1) (N + 1 + 1) (N + 1 + 1 + 1) (N + 1 + 1 + 1 + 1) (N + 1 + 1 + 1 + 1 + 1 + 1) (N + 1 + 1 + 1 + 1 + 1 + 1 + 1) (N + 1 + 1 + 1 + 1 + 1 + 1 + 1 + 1) ∧ Keeps w W)
    (((((((((w.alloc (.cells a0 87)).alloc (.cells #[.bool true, .bool true, .bool true, .bool true, .bool true, .bool false, .bool false] 4)).alloc (.cells #[.int .i64 0, .slice (some ⟨N + 1, 0, none⟩) 7 7, .slice none 0 0] 154)).alloc (.cells #[.string ⟨#[99]⟩] 9)).alloc (.cells #[.string ⟨#[112]⟩, .string ⟨#[113]⟩] 156)).alloc (.cells a1 87)).alloc (.cells #[.string ⟨#[97]⟩, .int .i64 0, .int .i64 0, .int .i64 2, .int .i64 1, .int .i64 10, .slice none 0 0, .string ⟨#[98]⟩, .int .i64 1, .int .i64 0, .int .i64 2, .int .i64 1, .int .i64 10, .slice none 0 0] 158)).alloc (.cells #[.string ⟨#[108]⟩, .int .i64 0, .int .i64 1, .int .i64 480, .int .i64 120, .int .i64 1, .string ⟨#[109]⟩, .int .i64 1, .int .i64 0, .int .i64 600, .int .i64 60, .int .i64 1] 160)).alloc (.cells #[.string ⟨#[107]⟩, .int .i64 1020, .int .i64 720] 162))
    from fun N a0 a1 hN => by
      refine ⟨⟨?_, ?_, ?_, ?_, ?_, ?_, ?_⟩, (((((((((Keeps.refl w).alloc _).alloc _).alloc _).alloc _).alloc _).alloc _).alloc _).alloc _).alloc _⟩
      · exact (((((((blk_at (w := w) _ (by simp [hN])).alloc _).alloc _).alloc _).alloc _).alloc _).alloc _).alloc _
      · exact ((((((blk_at (w := w) _ (by simp [hN])).alloc _).alloc _).alloc _).alloc _).alloc _).alloc _
      · exact (((((blk_at (w := w) _ (by simp [hN])).alloc _).alloc _).alloc _).alloc _).alloc _
      · exact ((((blk_at (w := w) _ (by simp [hN])).alloc _).alloc _).alloc _).alloc _
      · exact ((blk_at (w := w) _ (by simp [hN])).alloc _).alloc _
      · exact (blk_at (w := w) _ (by simp [hN])).alloc _
      · exact blk_at (w := w) _ (by simp [hN]))
  obtain ⟨N, hN⟩ : ∃ N, w.heap.size = N := ⟨_, rfl⟩
  have HN := Lib.hid hN
  go_enter Tryz.func29, Tryz.ntmps29
  go_wp2_with fail
  clear hN
  refine bodyPost_ret (v := .agg (netC (N + 1 + 1) (N + 1 + 1 + 1) (N + 1 + 1 + 1 + 1) (N + 1 + 1 + 1 + 1 + 1 + 1) (N + 1 + 1 + 1 + 1 + 1 + 1 + 1) (N + 1 + 1 + 1 + 1 + 1 + 1 + 1 + 1))) ?_ rfl ?_
  · have hB := HB.out N (netC (N + 1 + 1) (N + 1 + 1 + 1) (N + 1 + 1 + 1 + 1) (N + 1 + 1 + 1 + 1 + 1 + 1) (N + 1 + 1 + 1 + 1 + 1 + 1 + 1) (N + 1 + 1 + 1 + 1 + 1 + 1 + 1 + 1)) (netC (N + 1 + 1) (N + 1 + 1 + 1) (N + 1 + 1 + 1 + 1) (N + 1 + 1 + 1 + 1 + 1 + 1) (N + 1 + 1 + 1 + 1 + 1 + 1 + 1) (N + 1 + 1 + 1 + 1 + 1 + 1 + 1 + 1)) HN.out
    have q0 := hB.cell 0
    have q1 := hB.cell 1
    have q2 := hB.cell 2
    have q3 := hB.cell 3
    have q4 := hB.cell 4
    have q5 := hB.cell 5
    simp [netC] at q0 q1 q2 q3 q4 q5
    simp [results, Tryz.results29, go_sem, q0, q1, q2, q3, q4, q5]
  · exact ⟨_, _, _, _, _, _, _, rfl, HP.out N _ _ HN.out⟩
end Go.Proofs.YthkmpegpmpdhaaaGreatDoor
