/- The walk of ForwardMatchesReference. Conditions: none. -/
import Derived.Test.YtajobinkabdmkaaI
import Derived.Maps.OwnIn
import Derived.RangeFuncNested
import Derived.RangeFuncCalls
import Derived.RangeFuncLeaves
import Derived.Shelf.Abstract
import Derived.OwnWalkIn
import Derived.TacticsInMore
import Derived.LoopNIn
import Derived.LoopIn
import Derived.Test.YtajobinkabdmkaaA
import Derived.Test.YtajobinkabdmkaaG
import Derived.Test.YtajobinkabdmkaaM
import Derived.Test.YtajobinkabdmkaaRows
import Derived.WalkKit
import Derived.WalkSpells
import Derived.WalkLawsBesides
import Derived.Laws.EntriesVeiled
import Derived.ProofKit
import Derived.OpenShut
import Derived.Lib.Hide
import Derived.BigQuiet
import Derived.Deep.QuietTactic
import Derived.Below
import Derived.Laws.OwnMore
import Derived.Deep.AppendLies
import Derived.Deep.Draws
import Derived.Laws.Rows
import Derived.Maps.AppendAt
import Derived.RegionTactic
import Derived.OwnWalk
import Derived.Deep.RegionHeld3
namespace Go.Proofs.Ytajobinkabdmkaa
open Go.Shelf Go.ChangeShapes Go.WideShapes Go.ChangeAt Go.RowKit
set_option linter.unusedSimpArgs false
set_option linter.unusedVariables false
theorem rfollow_is (l : List Ordr) (A : Option Addr) (n c : Nat) (day px py : Int) (w : World) (hl : Ords w w.heap.size A l) (hn : l.length ≤ 1000000000000) (hln : n = l.length) :
    Calls Try.prog 11 #[.slice A n c, .int .i64 day, .agg #[.int .i64 px, .int .i64 py]] w (FollowPost (followF l day (px, py)) w) := by
  subst hln; exact rfollow_any l A c day px py w hl hn
theorem rfinal_is (l : List Ordr) (A : Option Addr) (n c : Nat) (day px py sx sy : Int) (w : World) (hl : Ords w w.heap.size A l) (hn : l.length ≤ 1000000000000) (hln : n = l.length) :
    Calls Try.prog 13 #[.slice A n c, .int .i64 day, .agg #[.int .i64 px, .int .i64 py], .agg #[.int .i64 sx, .int .i64 sy]] w (FinalPost (finalF l day (px, py) (sx, sy)) w) := by
  subst hln; exact rfinal_any l A c day px py sx sy w hl hn
theorem rvalid_is (l : List Ordr) (A : Option Addr) (n c : Nat) (w : World) (hl : Ords w w.heap.size A l) (hn : l.length ≤ 1000000000000) (hln : n = l.length) :
    Calls Try.prog 16 #[.slice A n c] w (BoolPost (validF l) w) := by
  subst hln; exact rvalid_any l A c w hl hn
set_option maxRecDepth 100000 in
set_option maxHeartbeats 2000000 in
theorem law_matches (l : List Ordr) (A : Option Addr) (c : Nat) (day px py sx sy : Int) (w : World) (hl : Ords w w.heap.size A l) (_hm : l.length ≤ maxLen) :
    Calls Try.prog 3 #[.slice A l.length c, .int .i64 day, .agg #[.int .i64 px, .int .i64 py], .agg #[.int .i64 sx, .int .i64 sy]] w (BoolPost true w) := by
  obtain ⟨n, hn⟩ : ∃ n, n = l.length := ⟨_, rfl⟩
  rw [← hn]
  have HN := Lib.hid hn; clear hn
  have bp0 : Blk ((w.alloc (.cells #[Value.int .i64 px, .int .i64 py] 24)).alloc (.cells #[Value.int .i64 sx, .int .i64 sy] 24)) w.heap.size 24 #[Value.int .i64 px, .int .i64 py] := (Blk.new w _ _).alloc _
  have bs0 : Blk ((w.alloc (.cells #[Value.int .i64 px, .int .i64 py] 24)).alloc (.cells #[Value.int .i64 sx, .int .i64 sy] 24)) (w.heap.size + 1) 24 #[Value.int .i64 sx, .int .i64 sy] := by
    have h := Blk.new (w.alloc (.cells #[Value.int .i64 px, .int .i64 py] 24)) 24 #[Value.int .i64 sx, .int .i64 sy]
    rw [World.size_alloc] at h; exact h
  have k0 := ((Keeps.refl w).alloc (.cells #[Value.int .i64 px, .int .i64 py] 24)).alloc (.cells #[Value.int .i64 sx, .int .i64 sy] 24)
  have q0 := hl.keep k0
  by_cases h50 : 50 < n
  · go_enter Try.func3, Try.ntmps3
    go_wp2_with fail
    refine (head_any _).mono ?_
    rintro e W1 ⟨rfl, h1⟩
    go_wp2
    go_ret
    exact ⟨rfl, k0.trans h1⟩
  · have hn12 : l.length ≤ 1000000000000 := by have := HN.out; omega
    go_enter Try.func3, Try.ntmps3
    go_wp2_with fail
    generalize (w.alloc (.cells #[Value.int .i64 px, .int .i64 py] 24)).alloc (.cells #[Value.int .i64 sx, .int .i64 sy] 24) = W0 at *
    refine (head_any _).mono ?_
    rintro e W1 ⟨rfl, h1⟩
    have bp0_1 := bp0.below h1 bp0.lt; clear bp0
    have bs0_1 := bs0.below h1 bs0.lt; clear bs0
    have q0_1 := q0.keep h1; clear q0
    have k_1 := k0.trans h1; clear k0
    have bp0_1x0 : W1.cell? ⟨w.heap.size, 0, none⟩ = some (.int .i64 px) := cell_of_blk bp0_1 0 rfl
    have bp0_1x1 : W1.cell? ⟨w.heap.size, 1, none⟩ = some (.int .i64 py) := cell_of_blk bp0_1 1 rfl
    have bp0_1z := bp0_1.lt
    have bs0_1x0 : W1.cell? ⟨w.heap.size + 1, 0, none⟩ = some (.int .i64 sx) := cell_of_blk bs0_1 0 rfl
    have bs0_1x1 : W1.cell? ⟨w.heap.size + 1, 1, none⟩ = some (.int .i64 sy) := cell_of_blk bs0_1 1 rfl
    have bs0_1z := bs0_1.lt
    go_wp2_with fail
    refine (follow_is l A n c _ _ _ _ q0_1 hn12 HN.out _ rfl).mono ?_
    rintro e W2 ⟨A2, c2, rfl, hc2, pa0, h2⟩
    clear bp0_1x0 bp0_1x1 bp0_1z
    clear bs0_1x0 bs0_1x1 bs0_1z
    have bp0_2 := bp0_1.below h2 bp0_1.lt; clear bp0_1
    have bs0_2 := bs0_1.below h2 bs0_1.lt; clear bs0_1
    have q0_2 := q0_1.keep h2; clear q0_1
    have k_2 := k_1.trans h2; clear k_1
    have bp0_2x0 : W2.cell? ⟨w.heap.size, 0, none⟩ = some (.int .i64 px) := cell_of_blk bp0_2 0 rfl
    have bp0_2x1 : W2.cell? ⟨w.heap.size, 1, none⟩ = some (.int .i64 py) := cell_of_blk bp0_2 1 rfl
    have bp0_2z := bp0_2.lt
    have bs0_2x0 : W2.cell? ⟨w.heap.size + 1, 0, none⟩ = some (.int .i64 sx) := cell_of_blk bs0_2 0 rfl
    have bs0_2x1 : W2.cell? ⟨w.heap.size + 1, 1, none⟩ = some (.int .i64 sy) := cell_of_blk bs0_2 1 rfl
    have bs0_2z := bs0_2.lt
    go_wp2_with fail
    refine (rfollow_is l A n c _ _ _ _ q0_2 hn12 HN.out).mono ?_
    rintro e W3 ⟨A3, c3, rfl, hc3, pb0, h3⟩
    clear bp0_2x0 bp0_2x1 bp0_2z
    clear bs0_2x0 bs0_2x1 bs0_2z
    have bp0_3 := bp0_2.below h3 bp0_2.lt; clear bp0_2
    have bs0_3 := bs0_2.below h3 bs0_2.lt; clear bs0_2
    have q0_3 := q0_2.keep h3; clear q0_2
    have pa0_3 := pa0.keep h3; clear pa0
    have k_3 := k_2.trans h3; clear k_2
    have bp0_3x0 : W3.cell? ⟨w.heap.size, 0, none⟩ = some (.int .i64 px) := cell_of_blk bp0_3 0 rfl
    have bp0_3x1 : W3.cell? ⟨w.heap.size, 1, none⟩ = some (.int .i64 py) := cell_of_blk bp0_3 1 rfl
    have bp0_3z := bp0_3.lt
    have bs0_3x0 : W3.cell? ⟨w.heap.size + 1, 0, none⟩ = some (.int .i64 sx) := cell_of_blk bs0_3 0 rfl
    have bs0_3x1 : W3.cell? ⟨w.heap.size + 1, 1, none⟩ = some (.int .i64 sy) := cell_of_blk bs0_3 1 rfl
    have bs0_3z := bs0_3.lt
    go_wp2_with fail
    refine (final_is l A n c _ _ _ _ _ _ q0_3 hn12 HN.out _ rfl).mono ?_
    rintro e W4 ⟨rfl, h4⟩
    clear bp0_3x0 bp0_3x1 bp0_3z
    clear bs0_3x0 bs0_3x1 bs0_3z
    have bp0_4 := bp0_3.below h4 bp0_3.lt; clear bp0_3
    have bs0_4 := bs0_3.below h4 bs0_3.lt; clear bs0_3
    have q0_4 := q0_3.keep h4; clear q0_3
    have pa0_4 := pa0_3.keep h4; clear pa0_3
    have pb0_4 := pb0.keep h4; clear pb0
    have k_4 := k_3.trans h4; clear k_3
    have bp0_4x0 : W4.cell? ⟨w.heap.size, 0, none⟩ = some (.int .i64 px) := cell_of_blk bp0_4 0 rfl
    have bp0_4x1 : W4.cell? ⟨w.heap.size, 1, none⟩ = some (.int .i64 py) := cell_of_blk bp0_4 1 rfl
    have bp0_4z := bp0_4.lt
    have bs0_4x0 : W4.cell? ⟨w.heap.size + 1, 0, none⟩ = some (.int .i64 sx) := cell_of_blk bs0_4 0 rfl
    have bs0_4x1 : W4.cell? ⟨w.heap.size + 1, 1, none⟩ = some (.int .i64 sy) := cell_of_blk bs0_4 1 rfl
    have bs0_4z := bs0_4.lt
    go_wp2_with fail
    clear bp0_4x0 bp0_4x1 bp0_4z
    clear bs0_4x0 bs0_4x1 bs0_4z
    have hy := (Keeps.refl W4).alloc (.cells #[Value.int .i64 (finalF l day (px, py) (sx, sy)).1.1, .int .i64 (finalF l day (px, py) (sx, sy)).1.2] 24)
    have by0 := Blk.new W4 24 #[Value.int .i64 (finalF l day (px, py) (sx, sy)).1.1, .int .i64 (finalF l day (px, py) (sx, sy)).1.2]
    have bp0_5 := bp0_4.below hy bp0_4.lt; clear bp0_4
    have bs0_5 := bs0_4.below hy bs0_4.lt; clear bs0_4
    have q0_5 := q0_4.keep hy; clear q0_4
    have pa0_5 := pa0_4.keep hy; clear pa0_4
    have pb0_5 := pb0_4.keep hy; clear pb0_4
    have k_5 := k_4.trans hy; clear k_4
    generalize W4.alloc (.cells #[Value.int .i64 (finalF l day (px, py) (sx, sy)).1.1, .int .i64 (finalF l day (px, py) (sx, sy)).1.2] 24) = U4 at *
    refine (rfinal_is l A n c _ _ _ _ _ _ q0_5 hn12 HN.out).mono ?_
    rintro e W5 ⟨rfl, h5⟩
    have bp0_6 := bp0_5.below h5 bp0_5.lt; clear bp0_5
    have bs0_6 := bs0_5.below h5 bs0_5.lt; clear bs0_5
    have by0_6 := by0.below h5 by0.lt; clear by0
    have q0_6 := q0_5.keep h5; clear q0_5
    have pa0_6 := pa0_5.keep h5; clear pa0_5
    have pb0_6 := pb0_5.keep h5; clear pb0_5
    have k_6 := k_5.trans h5; clear k_5
    have bp0_6x0 : W5.cell? ⟨w.heap.size, 0, none⟩ = some (.int .i64 px) := cell_of_blk bp0_6 0 rfl
    have bp0_6x1 : W5.cell? ⟨w.heap.size, 1, none⟩ = some (.int .i64 py) := cell_of_blk bp0_6 1 rfl
    have bp0_6z := bp0_6.lt
    have bs0_6x0 : W5.cell? ⟨w.heap.size + 1, 0, none⟩ = some (.int .i64 sx) := cell_of_blk bs0_6 0 rfl
    have bs0_6x1 : W5.cell? ⟨w.heap.size + 1, 1, none⟩ = some (.int .i64 sy) := cell_of_blk bs0_6 1 rfl
    have bs0_6z := bs0_6.lt
    have by0_6x0 : W5.cell? ⟨W4.heap.size, 0, none⟩ = some (.int .i64 (finalF l day (px, py) (sx, sy)).1.1) := cell_of_blk by0_6 0 rfl
    have by0_6x1 : W5.cell? ⟨W4.heap.size, 1, none⟩ = some (.int .i64 (finalF l day (px, py) (sx, sy)).1.2) := cell_of_blk by0_6 1 rfl
    have by0_6z := by0_6.lt
    have eqP := run_eq_pt
    go_wp2_with fail
    clear bp0_6x0 bp0_6x1 bp0_6z
    clear bs0_6x0 bs0_6x1 bs0_6z
    clear by0_6x0 by0_6x1 by0_6z
    have hv := (Keeps.refl W5).alloc (.cells #[Value.int .i64 (finalF l day (px, py) (sx, sy)).1.1, .int .i64 (finalF l day (px, py) (sx, sy)).1.2] 24)
    have bv0 := Blk.new W5 24 #[Value.int .i64 (finalF l day (px, py) (sx, sy)).1.1, .int .i64 (finalF l day (px, py) (sx, sy)).1.2]
    have bp0_7 := bp0_6.below hv bp0_6.lt; clear bp0_6
    have bs0_7 := bs0_6.below hv bs0_6.lt; clear bs0_6
    have by0_7 := by0_6.below hv by0_6.lt; clear by0_6
    have q0_7 := q0_6.keep hv; clear q0_6
    have pa0_7 := pa0_6.keep hv; clear pa0_6
    have pb0_7 := pb0_6.keep hv; clear pb0_6
    have k_7 := k_6.trans hv; clear k_6
    generalize W5.alloc (.cells #[Value.int .i64 (finalF l day (px, py) (sx, sy)).1.1, .int .i64 (finalF l day (px, py) (sx, sy)).1.2] 24) = U5 at *
    refine (same_is _ _ A2 A3 _ _ _ _ _ pa0_7 pb0_7 (Nat.le_trans (follow_len _ _ _) (by decide)) (Nat.le_trans (follow_len _ _ _) (by decide)) rfl rfl true (by simp)).mono ?_
    rintro e W6 ⟨rfl, h6⟩
    have bp0_8 := bp0_7.below h6 bp0_7.lt; clear bp0_7
    have bs0_8 := bs0_7.below h6 bs0_7.lt; clear bs0_7
    have by0_8 := by0_7.below h6 by0_7.lt; clear by0_7
    have bv0_8 := bv0.below h6 bv0.lt; clear bv0
    have q0_8 := q0_7.keep h6; clear q0_7
    have pa0_8 := pa0_7.keep h6; clear pa0_7
    have pb0_8 := pb0_7.keep h6; clear pb0_7
    have k_8 := k_7.trans h6; clear k_7
    have bp0_8x0 : W6.cell? ⟨w.heap.size, 0, none⟩ = some (.int .i64 px) := cell_of_blk bp0_8 0 rfl
    have bp0_8x1 : W6.cell? ⟨w.heap.size, 1, none⟩ = some (.int .i64 py) := cell_of_blk bp0_8 1 rfl
    have bp0_8z := bp0_8.lt
    have bs0_8x0 : W6.cell? ⟨w.heap.size + 1, 0, none⟩ = some (.int .i64 sx) := cell_of_blk bs0_8 0 rfl
    have bs0_8x1 : W6.cell? ⟨w.heap.size + 1, 1, none⟩ = some (.int .i64 sy) := cell_of_blk bs0_8 1 rfl
    have bs0_8z := bs0_8.lt
    have by0_8x0 : W6.cell? ⟨W4.heap.size, 0, none⟩ = some (.int .i64 (finalF l day (px, py) (sx, sy)).1.1) := cell_of_blk by0_8 0 rfl
    have by0_8x1 : W6.cell? ⟨W4.heap.size, 1, none⟩ = some (.int .i64 (finalF l day (px, py) (sx, sy)).1.2) := cell_of_blk by0_8 1 rfl
    have by0_8z := by0_8.lt
    have bv0_8x0 : W6.cell? ⟨W5.heap.size, 0, none⟩ = some (.int .i64 (finalF l day (px, py) (sx, sy)).1.1) := cell_of_blk bv0_8 0 rfl
    have bv0_8x1 : W6.cell? ⟨W5.heap.size, 1, none⟩ = some (.int .i64 (finalF l day (px, py) (sx, sy)).1.2) := cell_of_blk bv0_8 1 rfl
    have bv0_8z := bv0_8.lt
    go_wp2_with fail
    clear bp0_8x0 bp0_8x1 bp0_8z
    clear bs0_8x0 bs0_8x1 bs0_8z
    clear by0_8x0 by0_8x1 by0_8z
    clear bv0_8x0 bv0_8x1 bv0_8z
    refine (valid_is l A n c _ q0_8 hn12 HN.out _ rfl).mono ?_
    rintro e W7 ⟨rfl, h7⟩
    have bp0_9 := bp0_8.below h7 bp0_8.lt; clear bp0_8
    have bs0_9 := bs0_8.below h7 bs0_8.lt; clear bs0_8
    have by0_9 := by0_8.below h7 by0_8.lt; clear by0_8
    have bv0_9 := bv0_8.below h7 bv0_8.lt; clear bv0_8
    have q0_9 := q0_8.keep h7; clear q0_8
    have pa0_9 := pa0_8.keep h7; clear pa0_8
    have pb0_9 := pb0_8.keep h7; clear pb0_8
    have k_9 := k_8.trans h7; clear k_8
    go_wp2_with fail
    refine (rvalid_is l A n c _ q0_9 hn12 HN.out).mono ?_
    rintro e W8 ⟨rfl, h8⟩
    have bp0_10 := bp0_9.below h8 bp0_9.lt; clear bp0_9
    have bs0_10 := bs0_9.below h8 bs0_9.lt; clear bs0_9
    have by0_10 := by0_9.below h8 by0_9.lt; clear by0_9
    have bv0_10 := bv0_9.below h8 bv0_9.lt; clear bv0_9
    have q0_10 := q0_9.keep h8; clear q0_9
    have pa0_10 := pa0_9.keep h8; clear pa0_9
    have pb0_10 := pb0_9.keep h8; clear pb0_9
    have k_10 := k_9.trans h8; clear k_9
    go_wp2
    go_ret
    exact ⟨rfl, k_10⟩
end Go.Proofs.Ytajobinkabdmkaa
