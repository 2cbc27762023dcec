/- Part of the proof of TopOwnItem. Conditions: as stated in each theorem. -/
import Derived.Test.YthkmpegpmpdhaaaGreatDoorZNh
import Derived.Test.YthkmpegpmpdhaaaGreatDoorProg
import Derived.WalkMore
import Derived.LoopN
import Derived.Lib.ConvBytes
import Derived.Maps.OwnIn
import Derived.Deep.LoopGhost
import Derived.RangeFuncNested
import Derived.RangeFuncCalls
import Derived.RangeFuncLeaves
import Derived.RangeFuncWrites
import Derived.Shelf.Abstract
import Derived.Shelf.RegionOpen
import Derived.OwnWalkIn
import Derived.TacticsInMore
import Derived.LoopNIn
import Derived.LoopIn
import Derived.RangeFuncBound
import Derived.Laws.IdiomCopy
import Derived.WalkKit
import Derived.WalkSpells
import Derived.WalkLawsBesides
import Derived.Laws.EntriesVeiled
import Derived.ProofKit
import Derived.OpenShut
import Derived.Lib.Hide
import Derived.BigQuiet
import Derived.Deep.QuietTactic
import Derived.Deep.CutRange
import Derived.StillTailTactics
import Derived.Lib.SliceRun
import Derived.RangeFuncRecord
import Derived.Carry
import Derived.ChangeKeysEq
import Derived.Below
import Derived.Laws.OwnMore
import Derived.Deep.AppendLies
import Derived.Deep.Draws
import Derived.Laws.Rows
import Derived.Maps.AppendAt
import Derived.RegionTactic
import Derived.OwnWalk
import Derived.Deep.RegionHeld3
namespace Go.Proofs.YthkmpegpmpdhaaaGreatDoor
open Go.Shelf Go.ChangeShapes Go.WideShapes Go.ChangeAt Go.RowKit
set_option linter.unusedSimpArgs false
set_option linter.unusedVariables false
/-- What first holds when its calls come. -/
structure F7 (w : World) (N bw bc bn bo bf bl bk : Nat) (V : World) : Prop where
  k : Keeps w V
  b0 : Blk V N 87 (netC bc bn bo bf bl bk)
  b1 : Blk V (N + 1) 3 #[.int .i64 0]
  b2 : Blk V (N + 2) 3 #[.int .i64 110]
  b3 : Blk V (N + 3) 3 #[.int .i64 0]
  b4 : Blk V (N + 4) 4 #[.bool false]
  n : Net V bw bc bn bo bf bl bk
theorem F7.keep {w V V' : World} {N bw bc bn bo bf bl bk : Nat} (h : F7 w N bw bc bn bo bf bl bk V) (hk : Keeps V V') : F7 w N bw bc bn bo bf bl bk V' :=
  ⟨h.k.trans hk, h.b0.kp hk, h.b1.kp hk, h.b2.kp hk, h.b3.kp hk, h.b4.kp hk, h.n.keep hk⟩
theorem F7.cells {w V : World} {N bw bc bn bo bf bl bk : Nat} (h : F7 w N bw bc bn bo bf bl bk V) :
    V.cell? ⟨N, 0, none⟩ = some (.slice (some ⟨bc, 0, none⟩) 1 1) ∧ V.cell? ⟨N, 1, none⟩ = some (.slice (some ⟨bn, 0, none⟩) 1 1) ∧ V.cell? ⟨N, 2, none⟩ = some (.slice (some ⟨bo, 0, none⟩) 2 2) ∧ V.cell? ⟨N, 3, none⟩ = some (.slice (some ⟨bf, 0, none⟩) 2 2) ∧ V.cell? ⟨N, 4, none⟩ = some (.slice (some ⟨bl, 0, none⟩) 2 2) ∧ V.cell? ⟨N, 5, none⟩ = some (.slice (some ⟨bk, 0, none⟩) 1 1) ∧ V.cell? ⟨N + 1, 0, none⟩ = some (.int .i64 0) ∧ V.cell? ⟨N + 2, 0, none⟩ = some (.int .i64 110) :=
  ⟨h.b0.cell 0, h.b0.cell 1, h.b0.cell 2, h.b0.cell 3, h.b0.cell 4, h.b0.cell 5, h.b1.cell 0, h.b2.cell 0⟩
theorem Blk.cal {V : World} {g bw : Nat} (h : Blk V g 154 (calC bw)) : V.cell? ⟨g, 0, none⟩ = some (.int .i64 0) ∧ V.cell? ⟨g, 1, none⟩ = some (.slice (some ⟨bw, 0, none⟩) 7 7) ∧ V.cell? ⟨g, 2, none⟩ = some (.slice none 0 0) := ⟨h.cell 0, h.cell 1, h.cell 2⟩
section
attribute [local go_sem] Oper.semAt_some
set_option maxRecDepth 100000 in
set_option maxHeartbeats 4000000 in
theorem first217 (bw bc bn bo bf bl bk : Nat) (w : World) (h : Net w bw bc bn bo bf bl bk) : Calls Tryz.prog 217 #[.agg (netC bc bn bo bf bl bk), .int .i64 0, .int .i64 110] w fun e w' => e = .returned (.tuple #[.int .i64 480, .bool true]) ∧ Keeps w w' := by
  obtain ⟨N, hN⟩ : ∃ N, w.heap.size = N := ⟨_, rfl⟩
  have HW0 := Lib.hid (show ∀ V, V = (((((w.alloc (.cells (netC bc bn bo bf bl bk) 87)).alloc (.cells #[.int .i64 0] 3)).alloc (.cells #[.int .i64 110] 3)).alloc (.cells #[.int .i64 0] 3)).alloc (.cells #[.bool false] 4)) → F7 w N bw bc bn bo bf bl bk V ∧ V.heap.size = N + 5 from fun V e => by
    subst e
    have hk := (((((Keeps.refl w).alloc (.cells (netC bc bn bo bf bl bk) 87)).alloc (.cells #[.int .i64 0] 3)).alloc (.cells #[.int .i64 110] 3)).alloc (.cells #[.int .i64 0] 3)).alloc (.cells #[.bool false] 4)
    refine ⟨⟨hk, ?_, ?_, ?_, ?_, ?_, h.keep hk⟩, by simp [hN]⟩
    · exact ((((blk_at (w := w) w hN).alloc _).alloc _).alloc _).alloc _
    · exact (((blk_at (w := w) _ (by simp [hN])).alloc _).alloc _).alloc _
    · exact ((blk_at (w := w) _ (by simp [hN])).alloc _).alloc _
    · exact (blk_at (w := w) _ (by simp [hN])).alloc _
    · exact blk_at (w := w) _ (by simp [hN]))
  have HC := Lib.hid (fun X (hX : F7 w N bw bc bn bo bf bl bk X) => calendarOf260 bw bc bn bo bf bl bk X hX.n)
  have HNN := Lib.hid hN
  refine (callsIn_wide (n := 3)).1 ?_
  refine callsIn_of_wp_marks Tryz.func217 rfl trivial ?_ rfl
  refine wpIn_wide.2 ?_
  simp only [Tryz.ntmps217, List.size_toArray, List.length_cons, List.length_nil, Nat.reduceAdd, Nat.reduceSub, Array.replicate_succ, Array.replicate_zero, List.push_toArray, List.append_toArray, List.nil_append, List.cons_append]
  go_upto_region 1 with fail
  simp only [Nat.add_assoc, Nat.reduceAdd]
  clear h hN
  generalize hV : ((((w.alloc (.cells (netC bc bn bo bf bl bk) 87)).alloc (.cells #[.int .i64 0] 3)).alloc (.cells #[.int .i64 110] 3)).alloc (.cells #[.int .i64 0] 3)).alloc (.cells #[.bool false] 4) = V at *
  have H0 := Lib.hid (HW0.out V rfl)
  clear HW0 hV
  obtain ⟨c0, c1, c2, c3, c4, c5, c6, c7⟩ := H0.out.1.cells
  have HSZ := H0.out.2
  refine wp_scope_straight ?_
  go_upto_region 2 with (go_at_call 260; (with_reducible refine (HC.out _ H0.out.1).mono ?_); rintro e w1 ⟨rfl, hk1⟩; have K1 := Lib.hid hk1; have HF := Lib.hid (H0.out.1.keep hk1); clear hk1 c0 c1 c2 c3 c4 c5 c6 c7)
  have HSZ1 := K1.out.size
  have HG := Lib.hid (Blk.new w1 154 (calC bw))
  have H1 := Lib.hid (HF.out.keep ((Keeps.refl w1).alloc (.cells (calC bw) 154)))
  obtain ⟨g, hg⟩ : ∃ g, w1.heap.size = g := ⟨_, rfl⟩
  have hgN : N + 5 ≤ g := by omega
  rw [hg] at HG ⊢
  clear HF HSZ1 K1 HSZ H0 hg
  generalize hV : w1.alloc (.cells #[.int .i64 0, .slice (some ⟨bw, 0, none⟩) 7 7, .slice none 0 0] 154) = V1 at *
  have HG1 := Lib.hid (show Blk V1 g 154 (calC bw) from hV ▸ HG.out)
  have HF1 := Lib.hid (show F7 w N bw bc bn bo bf bl bk V1 from hV ▸ H1.out)
  clear HG H1 hV HC
  obtain ⟨c0, c1, c2, c3, c4, c5, c6, c7⟩ := HF1.out.cells
  obtain ⟨q0, q1, q2⟩ := HG1.out.cal
  have HL := Lib.hid (local261 bw V1)
  go_upto_region 3 with (go_at_call 261; (with_reducible refine HL.out.mono ?_); rintro e w2 ⟨rfl, hk⟩; have HF2 := Lib.hid (HF1.out.keep hk); have HG2 := Lib.hid (HG1.out.kp hk); clear hk c0 c1 c2 c3 c4 c5 c6 c7 q0 q1 q2)
  clear HL HF1 HG1
  obtain ⟨c0, c1, c2, c3, c4, c5, c6, c7⟩ := HF2.out.cells
  obtain ⟨q0, q1, q2⟩ := HG2.out.cal
  have HL := Lib.hid (workdays262 bw w2)
  refine wp_label ?_
  go_wp2_with (go_at_call 262; (with_reducible refine HL.out.mono ?_); rintro e w3 ⟨M, rfl, hM, m0, m1, m2, hk⟩; have HF3 := Lib.hid (HF2.out.keep hk); have HG3 := Lib.hid (HG2.out.kp hk); have HM := Lib.hid (And.intro m0 (And.intro m1 m2)); clear hk m0 m1 m2 c0 c1 c2 c3 c4 c5 c6 c7 q0 q1 q2)
  have SZ3 := Lib.hid (show N + 5 ≤ w3.heap.size by have := HG3.out.lt; omega)
  clear HL hgN HF2 HG2
  refine (wpIn_wide (n := 3)).1 ?_
  refine range_once (n := 3) (gf := 277) (lb := #[.pointer (some ⟨M + 1, 0, none⟩), .pointer (some ⟨M + 2, 0, none⟩), .pointer (some ⟨M, 0, none⟩)]) (by omega) rfl (enters_of Tryz.func277 (by kernel_rfl) rfl)
    (encs := #[.int .i64 0]) (days277 M bw w3 HM.out.1 HM.out.2.1 HM.out.2.2 HF3.out.n.wk) rfl
    (fun W => Keeps w W ∧ Blk W (N + 3) 3 #[.int .i64 480] ∧ Blk W (N + 4) 4 #[.bool true])
    (fun W l o hl hr => ⟨hr.1.putO o (by have := SZ3.out; have := HNN.out; omega), (World.putObj_heap_other (by have := SZ3.out; omega)).trans hr.2.1, (World.putObj_heap_other (by have := SZ3.out; omega)).trans hr.2.2⟩)
    { tmps := #[.agg (netC bc bn bo bf bl bk), .int .i64 0, .int .i64 110, .pointer (some ⟨N, 0, none⟩), .pointer (some ⟨N + 1, 0, none⟩), .pointer (some ⟨N + 2, 0, none⟩), .pointer (some ⟨N + 3, 0, none⟩), .pointer (some ⟨N + 4, 0, none⟩), .pointer (some ⟨g, 0, none⟩), .int .i64 0, .int .i64 110, .int .i64 0, undef, .agg (netC bc bn bo bf bl bk), .int .i64 0, .agg (calC bw), .tuple #[.int .i64 0, .int .i64 110], .agg (calC bw), .int .i64 110, .tuple #[.int .i64 0, .int .i64 110], .int .i64 0, .int .i64 110, .agg (calC bw), .int .i64 0, .int .i64 0, .int .i64 60, .func (.func 277) #[] #[.pointer (some ⟨M + 1, 0, none⟩), .pointer (some ⟨M + 2, 0, none⟩), .pointer (some ⟨M, 0, none⟩)], .int .i64 0, undef, undef, undef, undef, undef, undef, undef, undef, undef, undef, undef, undef, undef, undef, undef, undef, undef], defers := [] }
    ?assign ?body ?done
  case assign =>
    intro l m W K hK
    gi_wp2
    exact hK
  case body =>
    intro l m W hk
    have F := HF3.out.keep hk
    have G := HG3.out.kp hk
    obtain ⟨c0, c1, c2, c3, c4, c5, c6, c7⟩ := F.cells
    obtain ⟨q0, q1, q2⟩ := G.cal
    have l3 : W.cell? ⟨bl, 3, none⟩ = some (.int .i64 480) := F.n.li.cell 3
    have HT := Lib.hid (time263 bw W.drew)
    have FF := Lib.hid F
    have HE := Lib.hid (show ∀ w5, Keeps W.drew w5 → w5.cell? ⟨N + 2, 0, none⟩ = some (.int .i64 110) ∧ w5.cell? ⟨N + 3, 0, none⟩ = some (.int .i64 0) ∧ w5.cell? ⟨N + 4, 0, none⟩ = some (.bool false) ∧ w5.frozen? ⟨N + 3, 0, none⟩ = false ∧ w5.frozen? ⟨N + 4, 0, none⟩ = false ∧ onceP w3 (fun W => Keeps w W ∧ Blk W (N + 3) 3 #[.int .i64 480] ∧ Blk W (N + 4) 4 #[.bool true]) W .ret { tmps := #[], defers := [] } ((w5.setCell ⟨N + 3, 0, none⟩ (.int .i64 480)).setCell ⟨N + 4, 0, none⟩ (.bool true)) from fun w5 hk5 => by
      have hk6 : Keeps W w5 := (Keeps.refl W).drew.trans hk5
      have f5 := F.keep hk6
      have hn := HNN.out
      have hz := SZ3.out
      refine ⟨f5.b2.cell 0, f5.b3.cell 0, f5.b4.cell 0, f5.b3.frozen 0, f5.b4.frozen 0, ⟨⟨?_, ?_, ?_⟩, ?_, ?_⟩⟩
      · exact (f5.k.setCell (by simp; omega) _).setCell (by simp; omega) _
      · have := (f5.b3.set_ 0 (.int .i64 480)).far (p := ⟨N + 4, 0, none⟩) (by simp) (.bool true)
        simpa using this
      · have := (f5.b4.far (p := ⟨N + 3, 0, none⟩) (by simp) (.int .i64 480)).set_ 0 (.bool true)
        simpa using this
      · simpa using hk6.size
      · intro k h1 h2
        rw [Below.heap_setCell _ _ _ k (by simp; omega), Below.heap_setCell _ _ _ k (by simp; omega)]
        exact hk6.block k h2)
    clear F G hk
    gi_wp2
    gi_region_with (first | (refine ⟨trivial, fun h => (by simp [Fence.wide] at h), ?_⟩; gi_at_call 263; (with_reducible refine (CallsIn.inRound l (callsIn_wide.2 HT.out)).mono ?_); rintro e w5 ⟨rfl, hk5⟩; obtain ⟨x2, x3, x4, x5, x6, x7⟩ := HE.out w5 hk5; have HX := Lib.hid x7; clear hk5 x7))
    all_goals gi_wp2
    all_goals exact HX.out
  case done =>
    rintro D W hD ⟨hk, h3, h4⟩ hKD
    have p3 : (W.putObj D (.deferred none)).cell? ⟨N + 3, 0, none⟩ = some (.int .i64 480) := Blk.cell (show Blk (W.putObj D (.deferred none)) (N + 3) 3 #[.int .i64 480] from (World.putObj_heap_other (by have := SZ3.out; omega)).trans h3) 0
    have p4 : (W.putObj D (.deferred none)).cell? ⟨N + 4, 0, none⟩ = some (.bool true) := Blk.cell (show Blk (W.putObj D (.deferred none)) (N + 4) 4 #[.bool true] from (World.putObj_heap_other (by have := SZ3.out; omega)).trans h4) 0
    have HKD := Lib.hid hKD
    have hD' : w.heap.size ≤ D := by have := SZ3.out; have := HNN.out; omega
    have HKK := Lib.hid (hk.putO (.deferred none) hD')
    clear hKD h3 h4 hk
    go_wp2
    refine ⟨by simp, .inl ⟨_, _, rfl, run_takeDeferred (by exact HKD.out), ?_⟩⟩
    clear HKD
    generalize W.putObj D (.deferred none) = W9 at *
    exact ⟨.tuple #[.int .i64 480, .bool true], by simp [results, Tryz.results217, go_sem, p3, p4], rfl, HKK.out⟩
end
end Go.Proofs.YthkmpegpmpdhaaaGreatDoor
