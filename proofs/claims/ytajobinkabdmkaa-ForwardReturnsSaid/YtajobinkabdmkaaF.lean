import Derived.Deep.LoopGhost
import Derived.WalkMore
import Derived.RangeFuncNested
import Derived.RangeFuncCalls
import Derived.RangeFuncLeaves
import Derived.Shelf.Abstract
import Derived.OwnWalkIn
import Derived.TacticsInMore
import Derived.LoopNIn
import Derived.LoopIn
import Derived.Test.YtajobinkabdmkaaA
import Derived.Test.YtajobinkabdmkaaG
import Derived.Test.YtajobinkabdmkaaM
import Derived.Test.YtajobinkabdmkaaRows
import Derived.WalkKit
import Derived.WalkSpells
import Derived.WalkLawsBesides
import Derived.Laws.EntriesVeiled
import Derived.ProofKit
import Derived.OpenShut
import Derived.Lib.Hide
import Derived.BigQuiet
import Derived.Deep.QuietTactic
import Derived.Below
import Derived.Laws.OwnMore
import Derived.Deep.AppendLies
import Derived.Deep.Draws
import Derived.Laws.Rows
import Derived.Maps.AppendAt
import Derived.RegionTactic
import Derived.OwnWalk
import Derived.Deep.RegionHeld3
namespace Go.Proofs.Ytajobinkabdmkaa
open Go.Shelf Go.ChangeShapes Go.WideShapes Go.ChangeAt Go.RowKit
set_option linter.unusedSimpArgs false
set_option linter.unusedVariables false
def walkF (nx : Pt → Option Pt) : Nat → List Pt → Pt → List Pt × Int
  | 0, _, _ => ([], 2)
  | f + 1, ch, p => match nx p with
    | none => (ch, 0)
    | some q => if ch.contains q then ([], 70) else if ch.length = 5 then ([], 2) else walkF nx f (ch ++ [q]) q
def followF (l : List Ordr) (d : Int) (p : Pt) : List Pt × Int := if validF l then walkF (nextF l d) 5 [p] p else ([], 1)
theorem walk_end {nx : Pt → Option Pt} {f : Nat} {ch : List Pt} {p : Pt} (h : nx p = none) : walkF nx (f + 1) ch p = (ch, 0) := by simp [walkF, h]
theorem walk_loop {nx : Pt → Option Pt} {f : Nat} {ch : List Pt} {p q : Pt} (h : nx p = some q) (hc : ch.contains q = true) : walkF nx (f + 1) ch p = ([], 70) := by
  simp only [walkF, h]; rw [if_pos hc]
theorem walk_limit {nx : Pt → Option Pt} {f : Nat} {ch : List Pt} {p q : Pt} (h : nx p = some q) (hc : ch.contains q = false) (h5 : ch.length = 5) : walkF nx (f + 1) ch p = ([], 2) := by
  simp only [walkF, h]; rw [if_neg (by simp at hc ⊢; exact hc), if_pos h5]
theorem walk_go {nx : Pt → Option Pt} {f : Nat} {ch : List Pt} {p q : Pt} (h : nx p = some q) (hc : ch.contains q = false) (h5 : ch.length ≠ 5) : walkF nx (f + 1) ch p = walkF nx f (ch ++ [q]) q := by
  simp only [walkF, h]; rw [if_neg (by simp at hc ⊢; exact hc), if_neg h5]
/-- What Follow leaves: a slice of points and an error. -/
def FollowPost (r : List Pt × Int) (w : World) (e : Ending) (w' : World) : Prop :=
  ∃ A c, e = .returned (.tuple #[.slice A r.1.length c, .int .i64 r.2]) ∧ r.1.length ≤ c ∧ Pts w' w'.heap.size A r.1 ∧ Keeps w w'
theorem follow_nil {r : List Pt × Int} {x : Int} {w w' : World} (h : r = ([], x)) (hk : Keeps w w') : FollowPost r w (.returned (.tuple #[.slice none 0 0, .int .i64 x])) w' := by
  subst h; exact ⟨none, 0, rfl, Nat.le_refl _, fun k p hp => by simp at hp, hk⟩
theorem info24 : (Try.prog.info? 24).map (fun i => (i.zero, i.size, i.bytes)) = some (some (.agg #[.int .i64 0, .int .i64 0]), 2, 16) := by kernel_rfl
theorem next_is (l : List Ordr) (A : Option Addr) (c : Nat) (day px py : Int) (w : World) (hl : Ords w w.heap.size A l) (hn : l.length ≤ 1000000000000) (r : Option Pt) (hr : nextF l day (px, py) = r) :
    Calls Try.prog 17 #[.slice A l.length c, .int .i64 day, .agg #[.int .i64 px, .int .i64 py]] w fun e w' => e = .returned (.tuple #[.agg #[.int .i64 (r.getD (px, py)).1, .int .i64 (r.getD (px, py)).2], .bool r.isSome]) ∧ Keeps w w' := by
  subst hr; exact rnext_any l A c day px py w hl hn
theorem in_is (l : List Pt) (A : Option Addr) (n c : Nat) (px py : Int) (w : World) (hl : Pts w w.heap.size A l) (hn : l.length ≤ 1000000000000) (hln : n = l.length) (r : Bool) (hr : l.contains (px, py) = r) :
    Calls Try.prog 20 #[.slice A n c, .agg #[.int .i64 px, .int .i64 py]] w fun e w' => e = .returned (.bool r) ∧ Keeps w w' := by
  subst hr; subst hln; exact in_any l A c px py w hl hn
def slen : Value → Nat | .slice _ n _ => n | _ => 0

theorem ne_own {g n cap k : Nat} (h : g ≠ k) : some k ≠ (Value.slice (some ⟨g, 0, none⟩) n cap).ownBlock := by
  simp [Value.ownBlock]; exact fun e => h e.symm
theorem own_base {g n cap B : Nat} (h : B ≤ g) : ∀ k, (Value.slice (some ⟨g, 0, none⟩) n cap).ownBlock = some k → B ≤ k := by
  intro k hk; simp [Value.ownBlock] at hk; omega
theorem own_below {w w' : World} {base : Nat} {e : TypeId} {size n B : Nat} {v : Value} {xs : List Value} (h : w.ownsRow base e size v n xs) (hb : Below B w w') (hB : w.heap.size ≤ B) : w'.ownsRow base e size v n xs := by
  refine ⟨h.1, ?_⟩
  rcases h.2 with hn | ⟨g, cap, cur, rfl, hb', hgg, rest⟩
  · exact .inl hn
  · refine .inr ⟨g, cap, cur, rfl, hb', ?_, rest⟩
    have hg : g < w.heap.size := (Array.getElem?_eq_some_iff.1 hgg).1
    rw [hb.block g (by omega)]; exact hgg
theorem own_keeps {w w' : World} {base : Nat} {e : TypeId} {size n : Nat} {v : Value} {xs : List Value} (h : w.ownsRow base e size v n xs) (hb : Keeps w w') : w'.ownsRow base e size v n xs := own_below h hb (Nat.le_refl _)
theorem follow_own {r : List Pt × Int} {x : Int} {ch : List Pt} {w wr w' : World} {base g cap : Nat} (h : r = (ch, x)) (ho : wr.ownsRow base 24 2 (.slice (some ⟨g, 0, none⟩) ch.length cap) ch.length (ptCells ch)) (hw : Keeps wr w') (hk : Keeps w w') :
    FollowPost r w (.returned (.tuple #[.slice (some ⟨g, 0, none⟩) ch.length cap, .int .i64 x])) w' := by
  subst h
  refine ⟨_, cap, rfl, ?_, ((Pts.of_own ho rfl).below hw).more hw.size, hk⟩
  rcases ho.2 with ⟨h0, _⟩ | ⟨g', cap', cur, h0, _, _, h1, _⟩
  · cases h0
  · cases h0; exact h1
set_option maxHeartbeats 2000000 in
theorem rfollow_any (l : List Ordr) (A : Option Addr) (c : Nat) (day px py : Int) (w : World) (hl : Ords w w.heap.size A l) (hn : l.length ≤ 1000000000000) :
    Calls Try.prog 11 #[.slice A l.length c, .int .i64 day, .agg #[.int .i64 px, .int .i64 py]] w (FollowPost (followF l day (px, py)) w) := by
  obtain ⟨i0, hi0, hz0, hz1, hz2⟩ := info_parts info24
  cases hv : validF l
  · have E := Lib.hid (show followF l day (px, py) = ([], 1) by simp [followF, hv])
    go_enter Try.func11, Try.ntmps11
    go_wp2_with fail
    refine (rvalid_any l A c _ (hl.below ((Keeps.refl w).alloc _) |>.more (by simp)) hn).mono ?_
    rintro e W1 ⟨rfl, hk1⟩
    rw [hv]
    go_wp2
    go_ret2
    exact follow_nil E.out (((Keeps.refl w).alloc _).trans hk1)
  · have E0 : followF l day (px, py) = walkF (nextF l day) 5 [(px, py)] (px, py) := by simp [followF, hv]
    go_enter Try.func11, Try.ntmps11
    go_wp2_with fail
    refine (rvalid_any l A c _ (hl.below ((Keeps.refl w).alloc _) |>.more (by simp)) hn).mono ?_
    rintro e W1 ⟨rfl, hk1⟩
    rw [hv]
    have b1 : Blk W1 w.heap.size 24 #[.int .i64 px, .int .i64 py] := (Blk.new w 24 #[.int .i64 px, .int .i64 py]).below hk1 (by simp)
    have p0 : W1.cell? ⟨w.heap.size, 0, none⟩ = some (.int .i64 px) := cell_of_blk b1 0 rfl
    have p1 : W1.cell? ⟨w.heap.size, 1, none⟩ = some (.int .i64 py) := cell_of_blk b1 1 rfl
    go_wp2_with fail
    have hsz1 : w.heap.size + 1 ≤ W1.heap.size := by have := hk1.size; simpa using this
    have o1 : (W1.alloc (.cells #[Value.int .i64 px, .int .i64 py] 24)).ownsRow W1.heap.size 24 2 (.slice (some ⟨W1.heap.size, 0, none⟩) 1 1) 1 (ptCells [(px, py)]) :=
      World.ownsRow_lit W1 #[Value.int .i64 px, .int .i64 py] 1 (Nat.le_refl _) (by unfold maxLen; omega) rfl
    have b2 : Blk (W1.alloc (.cells #[Value.int .i64 px, .int .i64 py] 24)) w.heap.size 24 #[.int .i64 px, .int .i64 py] := b1.alloc _
    have k2 : Keeps w (W1.alloc (.cells #[Value.int .i64 px, .int .i64 py] 24)) := (((Keeps.refl w).alloc _).trans hk1).alloc _
    have z2 : W1.heap.size ≤ (W1.alloc (.cells #[Value.int .i64 px, .int .i64 py] 24)).heap.size := by simp
    clear b1 p0 p1 hk1 hv
    generalize (W1.alloc (.cells #[Value.int .i64 px, .int .i64 py] 24)) = W2 at *
    have E0 := Lib.hid E0
    go_loopw [8] (fun v wr => ∃ (ch : List Pt) (p : Pt) (f : Nat), wr.ownsRow W1.heap.size 24 2 v ch.length (ptCells ch) ∧ Blk wr w.heap.size 24 #[.int .i64 p.1, .int .i64 p.2] ∧ Keeps w wr ∧ W1.heap.size ≤ wr.heap.size ∧
        walkF (nextF l day) 5 [(px, py)] (px, py) = walkF (nextF l day) (f + 1) ch p ∧ ch.length + f = 5 ∧ 1 ≤ ch.length) (fun v _ => 6 - slen v)
    case atStart => exact ⟨[(px, py)], (px, py), 4, o1, b2, k2, z2, rfl, rfl, by simp⟩
    case round =>
      obtain ⟨ch, p, f, hown, hblk, hK, hz, hw, hf, h1⟩ := hrel
      obtain ⟨g, cap, rfl, hgb, hglt⟩ := hown.form (by omega)
      have q0 : wr.cell? ⟨w.heap.size, 0, none⟩ = some (.int .i64 p.1) := cell_of_blk hblk 0 rfl
      have q1 : wr.cell? ⟨w.heap.size, 1, none⟩ = some (.int .i64 p.2) := cell_of_blk hblk 1 rfl
      cases hnx : nextF l day p with
      | none =>
        have E := Lib.hid (E0.out.trans (hw.trans (walk_end hnx)))
        go_wp2_with fail
        refine (next_is l A c day p.1 p.2 _ (hl.below hK |>.more hK.size) hn none hnx).mono ?_
        rintro e W3 ⟨rfl, hk3⟩
        go_wp2
        go_ret2
        exact follow_own E.out hown (hk3.alloc _) ((hK.trans hk3).alloc _)
      | some q =>
        cases hc : ch.contains q with
        | true =>
          have E := Lib.hid (E0.out.trans (hw.trans (walk_loop hnx hc)))
          go_wp2_with fail
          refine (next_is l A c day p.1 p.2 _ (hl.below hK |>.more hK.size) hn (some q) hnx).mono ?_
          rintro e W3 ⟨rfl, hk3⟩
          have hb3 := hblk.below hk3 (by omega)
          have hown3 := own_keeps hown hk3
          have hz3 := hk3.size
          have n3 := Blk.new W3 24 #[Value.int .i64 q.1, .int .i64 q.2]
          go_wp2_with fail
          refine (in_is ch (some ⟨g, 0, none⟩) ch.length cap q.1 q.2 _ (Pts.of_own (hown3.alloc _) rfl) (by omega) rfl true hc).mono ?_
          rintro e W4 ⟨rfl, hk4⟩
          go_wp2
          go_ret2
          exact follow_nil E.out (((hK.trans hk3).alloc _).trans hk4)
        | false =>
          by_cases h5 : ch.length = 5
          · have E := Lib.hid (E0.out.trans (hw.trans (walk_limit hnx hc h5)))
            have h5' : ((ch.length : Int) == 5) = true := by simp; omega
            have H5 := Lib.hid h5; clear h5
            go_wp2_with fail
            refine (next_is l A c day p.1 p.2 _ (hl.below hK |>.more hK.size) hn (some q) hnx).mono ?_
            rintro e W3 ⟨rfl, hk3⟩
            have hb3 := hblk.below hk3 (by omega)
            have hown3 := own_keeps hown hk3
            have hz3 := hk3.size
            have n3 := Blk.new W3 24 #[Value.int .i64 q.1, .int .i64 q.2]
            go_wp2_with fail
            refine (in_is ch (some ⟨g, 0, none⟩) ch.length cap q.1 q.2 _ (Pts.of_own (hown3.alloc _) rfl) (by omega) rfl false hc).mono ?_
            rintro e W4 ⟨rfl, hk4⟩
            go_wp2
            go_ret2
            exact follow_nil E.out (((hK.trans hk3).alloc _).trans hk4)
          · have E := Lib.hid (hw.trans (walk_go hnx hc h5))
            have h5' : ((ch.length : Int) == 5) = false := by simp; omega
            have H5 := Lib.hid h5; clear h5
            go_wp2_with fail
            refine (next_is l A c day p.1 p.2 _ (hl.below hK |>.more hK.size) hn (some q) hnx).mono ?_
            rintro e W3 ⟨rfl, hk3⟩
            have hb3 := hblk.below hk3 (by omega)
            have hown3 := own_keeps hown hk3
            have hz3 := hk3.size
            have n3 := Blk.new W3 24 #[Value.int .i64 q.1, .int .i64 q.2]
            go_wp2_with fail
            refine (in_is ch (some ⟨g, 0, none⟩) ch.length cap q.1 q.2 _ (Pts.of_own (hown3.alloc _) rfl) (by omega) rfl false hc).mono ?_
            rintro e W4 ⟨rfl, hk4⟩
            have hown4 := own_keeps (hown3.alloc (.cells #[Value.int .i64 q.1, .int .i64 q.2] 24)) hk4
            have hb4 := (hb3.alloc (.cells #[Value.int .i64 q.1, .int .i64 q.2] 24)).below hk4 (by simp; omega)
            have n4 := n3.below hk4 (by simp)
            have x0 : W4.cell? ⟨W3.heap.size, 0, none⟩ = some (.int .i64 q.1) := cell_of_blk n4 0 rfl
            have x1 : W4.cell? ⟨W3.heap.size, 1, none⟩ = some (.int .i64 q.2) := cell_of_blk n4 1 rfl
            have hz4 := hk4.size
            have hg5 : g ≠ W3.heap.size := by omega
            have hg6 : g ≠ w.heap.size := by omega
            have hzz : w.heap.size < W4.heap.size := by have := World.size_alloc W3 (.cells #[Value.int .i64 q.1, .int .i64 q.2] 24); omega
            have hzw : W1.heap.size ≤ W4.heap.size := by have := World.size_alloc W3 (.cells #[Value.int .i64 q.1, .int .i64 q.2] 24); omega
            have nn := hown4.alloc (.cells #[Value.int .i64 q.1, .int .i64 q.2] 24)
            have hb5 := hb4.alloc (.cells #[Value.int .i64 q.1, .int .i64 q.2] 24)
            have n5 := n4.alloc (.cells #[Value.int .i64 q.1, .int .i64 q.2] 24)
            clear hb3 hown3 n3 hb4 n4 hown4 hown hblk
            have c1 := World.news_of_block (cs := #[.int .i64 q.1, .int .i64 q.2]) (t := 24) (fr := (0, 0)) (heap_alloc_new W4 (.cells #[.int .i64 q.1, .int .i64 q.2] 24))
            have c2 : ∀ u ∈ [Value.int .i64 q.1, .int .i64 q.2], u.oneCell' = true := by simp [Value.oneCell']
            have c3 : ch.length + 1 ≤ maxLen := by unfold maxLen; omega
            have c4 : (ch.length + 1) * 16 ≤ 140737488355328 := by omega
            have c5 : W1.heap.size ≤ (W4.alloc (.cells #[.int .i64 q.1, .int .i64 q.2] 24)).heap.size := by simp; omega
            have C1 := Lib.hid c1; have C2 := Lib.hid c2; have C5 := Lib.hid c5
            clear c1 c2 c5
            go_wp2_with (at_builtin; refine (wpList_append_own _ rfl (.tmp 32) (.tmp 34) 26 rfl W1.heap.size 24 i0 (.agg #[.int .i64 0, .int .i64 0]) 2 16 Try.underlying26 hi0 hz0 hz1 hz2 rfl (by decide) _ _ _ rfl nn ⟨W4.heap.size, 0, none⟩ 1 1 [.int .i64 q.1, .int .i64 q.2] rfl rfl C1.out C2.out c3 c4 C5.out ?_); intro v' w5 hown5 hgrow _; obtain ⟨g', cap', rfl, hg', hgl'⟩ := hown5.form (by omega); have y0 : w5.cell? ⟨W3.heap.size, 0, none⟩ = some (.int .i64 q.1) := cell_of_blk (n5.grown hgrow (ne_own hg5)) 0 rfl; have y1 : w5.cell? ⟨W3.heap.size, 1, none⟩ = some (.int .i64 q.2) := cell_of_blk (n5.grown hgrow (ne_own hg5)) 1 rfl; have hb6 := hb5.grown hgrow (ne_own hg6); have r0 : w5.cell? ⟨w.heap.size, 0, none⟩ = some (.int .i64 p.1) := cell_of_blk hb6 0 rfl; have r1 : w5.cell? ⟨w.heap.size, 1, none⟩ = some (.int .i64 p.2) := cell_of_blk hb6 1 rfl; have e0 := hb6.frozen 0; have e1 := hb6.frozen 1)
            have hK4 : Keeps w (W4.alloc (.cells #[Value.int .i64 q.1, .int .i64 q.2] 24)) := (((hK.trans hk3).alloc _).trans hk4).alloc _
            have hK5 : Keeps w w5 := Below.grown hK4 hgrow hK4.size (own_base (by omega))
            go_roundw
            case rel =>
              obtain ⟨f', rfl⟩ : ∃ f', f = f' + 1 := ⟨f - 1, by have := H5.out; omega⟩
              refine ⟨ch ++ [q], q, f', ?_, (hb6.set_ 0 _).set_ 1 _, (hK5.setCell (Nat.le_refl _) _).setCell (Nat.le_refl _) _, ?_, E.out, by simp; omega, by simp⟩
              · rw [ptCells_append, List.length_append]
                exact ownsRow_setCell_below (ownsRow_setCell_below hown5 (by simp; omega) _) (by simp; omega) _
              · have := hgrow.size
                simp at this ⊢
                omega
            case measure => simp [slen]; omega
attribute [local go_sem] Oper.semAt_some
/-- The point k steps on. -/
def itF (nx : Pt → Option Pt) (p : Pt) : Nat → Option Pt
  | 0 => some p
  | k + 1 => (itF nx p k).bind nx
/-- The points of ys are the first of those that follow each other from p on. -/
def Chn (nx : Pt → Option Pt) (p : Pt) (ys : List Pt) : Prop := ∀ k, k < ys.length → itF nx p k = ys[k]?
theorem Chn.snoc {nx : Pt → Option Pt} {p q : Pt} {ys : List Pt} (h : Chn nx p ys) (hq : itF nx p ys.length = some q) : Chn nx p (ys ++ [q]) := fun k hk => by
  by_cases e : k < ys.length
  · rw [h k e, List.getElem?_append_left e]
  · have : k = ys.length := by simp at hk; omega
    subst this
    simp [hq]
theorem nexts_is (l : List Ordr) (A : Option Addr) (c : Nat) (day px py : Int) (w : World) (hl : Ords w w.heap.size A l) (hn : l.length ≤ 1000000000000) (r : Option Pt) (hr : nextF l day (px, py) = r) :
    Calls Try.prog 24 #[.slice A l.length c, .int .i64 day, .agg #[.int .i64 px, .int .i64 py]] w fun e w' => e = .returned (.tuple #[.agg #[.int .i64 (r.getD (px, py)).1, .int .i64 (r.getD (px, py)).2], .bool r.isSome]) ∧ Keeps w w' := by
  subst hr; exact next_any l A c day px py w hl hn

set_option maxRecDepth 100000 in
set_option maxHeartbeats 2000000 in
theorem along_in (n : Nat) (l : List Ordr) (A : Option Addr) (c : Nat) (day px py : Int) (w : World) (b8 n₀ bp bl bd : Nat) (kp : Nat → Prop) (hl : Ords w n₀ A l) (hn : l.length ≤ 1000000000000)
    (hp : Blk w bp 24 #[.int .i64 px, .int .i64 py]) (hbl : Blk w bl 22 #[.slice A l.length c]) (hbd : Blk w bd 3 #[.int .i64 day]) (kl : kp bl) (kd : kp bd) (rl : bl ≠ b8 ∧ bd ≠ b8) (h8 : b8 < w.heap.size) (hn0 : n₀ ≤ w.heap.size) :
    SeqB Fence.wide n Try.prog 23 #[.pointer (some ⟨bp, 0, none⟩), .pointer (some ⟨bl, 0, none⟩), .pointer (some ⟨bd, 0, none⟩)] (fun p : Pt => #[.agg #[.int .i64 p.1, .int .i64 p.2]]) b8 n₀ kp
      (fun ys => Chn (nextF l day) (px, py) ys ∧ itF (nextF l day) (px, py) ys.length = none) (fun pre => Chn (nextF l day) (px, py) pre) 6 24 w := by
  intro lo J Jx W hW hk hJ hok hY h0
  refine callsIn_of_wp Try.func23 rfl trivial ?_ rfl
  simp only [Try.ntmps23, List.size_toArray, List.length_cons, List.length_nil, Nat.reduceAdd, Nat.reduceSub, Array.replicate_succ, Array.replicate_zero, List.push_toArray, List.append_toArray, List.nil_append, List.cons_append]
  have p0 : W.cell? ⟨bp, 0, none⟩ = some (.int .i64 px) := cell_of_blk (hp.below hW hp.lt) 0 rfl
  have p1 : W.cell? ⟨bp, 1, none⟩ = some (.int .i64 py) := cell_of_blk (hp.below hW hp.lt) 1 rfl
  have hS0 : W.heap.size < (W.alloc (.cells #[Value.int .i64 px, .int .i64 py] 24)).heap.size := by simp
  have hKW : Below W.heap.size W (W.alloc (.cells #[Value.int .i64 px, .int .i64 py] 24)) := (Below.refl _ _).alloc (Nat.le_refl _) _
  have hB0 := Blk.new W 24 #[Value.int .i64 px, .int .i64 py]
  have hJ1 : J [] (W.alloc (.cells #[Value.int .i64 px, .int .i64 py] 24)) := hJ _ _ _ h0 (turn_alloc _ _)
  have hr8 : ∀ g, RowOf b8 (W.alloc (.cells #[Value.int .i64 px, .int .i64 py] 24)) g → g < W.heap.size := fun g hg => by
    obtain ⟨cs, fr, h⟩ := (hok [] W h0).2 g ((rowOf_same (hKW.block b8 (Nat.lt_of_lt_of_le h8 hW.size)) g).1 hg)
    exact (Array.getElem?_eq_some_iff.1 h).1
  have hl1 : Ords (W.alloc (.cells #[Value.int .i64 px, .int .i64 py] 24)) n₀ A l := hl.below ((hW.mono hn0).trans (hKW.mono (Nat.le_trans hn0 hW.size)))
  have hbl1 := (hbl.below hW hbl.lt).alloc (.cells #[Value.int .i64 px, .int .i64 py] 24)
  have hbd1 := (hbd.below hW hbd.lt).alloc (.cells #[Value.int .i64 px, .int .i64 py] 24)
  gi_wp2
  generalize W.alloc (.cells #[Value.int .i64 px, .int .i64 py] 24) = W1 at *
  generalize hZ : W.heap.size = Z at *
  have hZ' := Lib.hid hZ; clear hZ
  obtain ⟨R, hR⟩ : ∃ R : Nat → Value → World → Prop, R = fun m v wr => ∃ (pre : List Pt) (cur : Pt), v = .bool (itF (nextF l day) (px, py) pre.length).isSome ∧ (∀ q, itF (nextF l day) (px, py) pre.length = some q → q = cur) ∧
      Chn (nextF l day) (px, py) pre ∧ J pre wr ∧ pre.length + m = 6 ∧ Blk wr Z 24 #[.int .i64 cur.1, .int .i64 cur.2] ∧ Blk wr bl 22 #[.slice A l.length c] ∧ Blk wr bd 3 #[.int .i64 day] ∧ Ords wr n₀ A l ∧ ¬ RowOf b8 wr Z ∧ Z < wr.heap.size := ⟨_, rfl⟩
  gi_loopw [6] (fun v wr => ∃ m, R m v wr) (fun v wr => leastOf (fun m => R m v wr))
  case atStart =>
    rw [hR]
    exact ⟨6, [], (px, py), rfl, fun q h => by simp [itF] at h; exact h.symm, fun k hk => by simp at hk, hJ1, rfl, hB0, hbl1, hbd1, hl1, fun h => by have := hr8 _ h; omega, hS0⟩
  case round =>
    have hm := (leastOf_spec hrel).1
    generalize hml : leastOf _ = m at hm
    have HML := Lib.hid hml; clear hml hrel
    rw [hR] at hm
    obtain ⟨pre, cur, rfl, hcur, hch, hJw, hlen, hbZ, hbL, hbD, hO, hnr, hZs⟩ := hm
    have hpl : pre.length < 6 := (hok pre wr hJw).1
    cases hit : itF (nextF l day) (px, py) pre.length with
    | none =>
      gi_wp2
      go_end0
      exact ⟨⟨_, rfl⟩, .inl ⟨pre, ⟨hch, hit⟩, hJw⟩⟩
    | some q =>
      obtain rfl := hcur q hit
      have hch' := hch.snoc hit
      have z0 : wr.cell? ⟨Z, 0, none⟩ = some (.int .i64 q.1) := cell_of_blk hbZ 0 rfl
      have z1 : wr.cell? ⟨Z, 1, none⟩ = some (.int .i64 q.2) := cell_of_blk hbZ 1 rfl
      obtain ⟨fn, tmps, assign, body, hy, hRd⟩ := hY pre q wr hJw
      have HIT := Lib.hid hit; clear hit
      have HCH := Lib.hid hch'; clear hch'
      gi_wp2
      refine ⟨fun h => by simp [Fence.wide] at h, hRd.mono ?_⟩
      rintro e W3 (⟨rfl, hJ3, hk3⟩ | ⟨rfl, hJx3⟩)
      · have hlt3 : wr.heap.size ≤ W3.heap.size := hk3.low.size
        have hrow : ∀ g, RowOf b8 wr g → ∃ cs fr, wr.heap[g]? = some (.cells cs 24 fr) := (hok pre wr hJw).2
        have nrl : ¬ RowOf b8 wr bl := fun h => by
          obtain ⟨cs, fr, h⟩ := hrow _ h
          unfold Blk at hbL; rw [hbL] at h; cases h
        have nrd : ¬ RowOf b8 wr bd := fun h => by
          obtain ⟨cs, fr, h⟩ := hrow _ h
          unfold Blk at hbD; rw [hbD] at h; cases h
        obtain ⟨eL, _⟩ := hk3.other bl kl hbL.lt nrl
        obtain ⟨eD, _⟩ := hk3.other bd kd hbD.lt nrd
        obtain ⟨eZ, nZ⟩ := hk3.other Z (hk Z (Nat.le_refl _)) hZs hnr
        have bL3 : Blk W3 bl 22 #[.slice A l.length c] := eL.trans hbL
        have bD3 : Blk W3 bd 3 #[.int .i64 day] := eD.trans hbD
        have bZ3 : Blk W3 Z 24 #[.int .i64 q.1, .int .i64 q.2] := eZ.trans hbZ
        have hO3 : Ords W3 n₀ A l := hO.below hk3.low
        have x0 : W3.cell? ⟨bl, 0, none⟩ = some (.slice A l.length c) := cell_of_blk bL3 0 rfl
        have x1 : W3.cell? ⟨bd, 0, none⟩ = some (.int .i64 day) := cell_of_blk bD3 0 rfl
        have x2 : W3.cell? ⟨Z, 0, none⟩ = some (.int .i64 q.1) := cell_of_blk bZ3 0 rfl
        have x3 : W3.cell? ⟨Z, 1, none⟩ = some (.int .i64 q.2) := cell_of_blk bZ3 1 rfl
        have hnext : itF (nextF l day) (px, py) (pre ++ [q]).length = nextF l day q := by
          rw [List.length_append]; simp [itF, HIT.out]
        have HNX := Lib.hid hnext; clear hnext eL eD eZ
        have hn0W : n₀ ≤ W3.heap.size := by have := hW.size; have := hZ'.out; omega
        cases hnx : nextF l day q with
        | none =>
          gi_wp2
          refine ⟨trivial, fun h => by simp [Fence.wide] at h, ?_⟩
          refine (callsIn_wide.2 (nexts_is l A c day q.1 q.2 _ (hO3.more hn0W) hn (none) hnx)).mono ?_
          rintro e W4 ⟨rfl, hk4⟩
          have bZ4 := bZ3.below hk4 bZ3.lt
          have y0 : W4.cell? ⟨Z, 0, none⟩ = some (.int .i64 q.1) := cell_of_blk bZ4 0 rfl
          have y1 : W4.cell? ⟨Z, 1, none⟩ = some (.int .i64 q.2) := cell_of_blk bZ4 1 rfl
          have f0 := bZ4.frozen 0
          have f1 := bZ4.frozen 1
          gi_wp2
          have nZ4 : ¬ RowOf b8 W4 Z := fun h => nZ ((rowOf_same (hk4.block b8 (Nat.lt_of_lt_of_le (Nat.lt_of_lt_of_le h8 hW.size) (by have := hZ'.out; omega))) Z).1 h)
          have hZ8 : b8 ≠ Z := by have := hW.size; have := hZ'.out; omega
          have hnZ : n₀ ≤ Z := by have := hW.size; have := hZ'.out; omega
          have J4 : J (pre ++ [q]) W4 := hJ _ _ _ hJ3 (turn_same hk4)
          have J5 := hJ _ _ _ J4 (turn_setCell W4 ⟨Z, 0, none⟩ (.int .i64 q.1) (Nat.le_refl _) nZ4)
          have nZ5 : ¬ RowOf b8 (W4.setCell ⟨Z, 0, none⟩ (.int .i64 q.1)) Z := fun h => nZ4 ((rowOf_same (Below.heap_setCell W4 _ _ b8 hZ8) Z).1 h)
          have J6 := hJ _ _ _ J5 (turn_setCell _ ⟨Z, 1, none⟩ (.int .i64 q.2) (Nat.le_refl _) nZ5)
          have nZ6 : ¬ RowOf b8 ((W4.setCell ⟨Z, 0, none⟩ (.int .i64 q.1)).setCell ⟨Z, 1, none⟩ (.int .i64 q.2)) Z := fun h => nZ5 ((rowOf_same (Below.heap_setCell _ _ _ b8 hZ8) Z).1 h)
          have lZ : bl ≠ Z := hbL.ne_ hbZ (by decide)
          have dZ : bd ≠ Z := hbD.ne_ hbZ (by decide)
          have hR4 : R (6 - (pre ++ [q]).length) (.bool false) ((W4.setCell ⟨Z, 0, none⟩ (.int .i64 q.1)).setCell ⟨Z, 1, none⟩ (.int .i64 q.2)) := by
            rw [hR]
            refine ⟨pre ++ [q], q, by rw [HNX.out, hnx]; rfl, (fun q' h => by rw [HNX.out, hnx] at h; cases h), HCH.out, J6, by simp; omega, (bZ4.set_ 0 _).set_ 1 _, ((bL3.below hk4 bL3.lt).far (p := ⟨Z, 0, none⟩) lZ _).far (p := ⟨Z, 1, none⟩) lZ _, ((bD3.below hk4 bD3.lt).far (p := ⟨Z, 0, none⟩) dZ _).far (p := ⟨Z, 1, none⟩) dZ _, ?_, nZ6, ?_⟩
            · exact (hO3.below (Below.mono hk4 hn0W)).below (((Below.refl n₀ W4).setCell (p := ⟨Z, 0, none⟩) hnZ _).setCell (p := ⟨Z, 1, none⟩) hnZ _)
            · simpa using bZ4.lt
          have hms := (leastOf_spec (p := fun m => R m (.bool false) ((W4.setCell ⟨Z, 0, none⟩ (.int .i64 q.1)).setCell ⟨Z, 1, none⟩ (.int .i64 q.2))) ⟨_, hR4⟩).2 _ hR4
          simp only [List.length_append, List.length_cons, List.length_nil] at hms
          have HMS := Lib.hid hms; clear hms
          have HR4 := Lib.hid hR4; clear hR4
          go_roundw
          case rel => exact ⟨_, HR4.out⟩
          case measure =>
            have hml := HML.out
            rw [HIT.out] at hml
            exact Nat.lt_of_le_of_lt HMS.out (by rw [hml]; omega)
        | some q2 =>
          gi_wp2
          refine ⟨trivial, fun h => by simp [Fence.wide] at h, ?_⟩
          refine (callsIn_wide.2 (nexts_is l A c day q.1 q.2 _ (hO3.more hn0W) hn (some q2) hnx)).mono ?_
          rintro e W4 ⟨rfl, hk4⟩
          have bZ4 := bZ3.below hk4 bZ3.lt
          have y0 : W4.cell? ⟨Z, 0, none⟩ = some (.int .i64 q.1) := cell_of_blk bZ4 0 rfl
          have y1 : W4.cell? ⟨Z, 1, none⟩ = some (.int .i64 q.2) := cell_of_blk bZ4 1 rfl
          have f0 := bZ4.frozen 0
          have f1 := bZ4.frozen 1
          gi_wp2
          have nZ4 : ¬ RowOf b8 W4 Z := fun h => nZ ((rowOf_same (hk4.block b8 (Nat.lt_of_lt_of_le (Nat.lt_of_lt_of_le h8 hW.size) (by have := hZ'.out; omega))) Z).1 h)
          have hZ8 : b8 ≠ Z := by have := hW.size; have := hZ'.out; omega
          have hnZ : n₀ ≤ Z := by have := hW.size; have := hZ'.out; omega
          have J4 : J (pre ++ [q]) W4 := hJ _ _ _ hJ3 (turn_same hk4)
          have J5 := hJ _ _ _ J4 (turn_setCell W4 ⟨Z, 0, none⟩ (.int .i64 q2.1) (Nat.le_refl _) nZ4)
          have nZ5 : ¬ RowOf b8 (W4.setCell ⟨Z, 0, none⟩ (.int .i64 q2.1)) Z := fun h => nZ4 ((rowOf_same (Below.heap_setCell W4 _ _ b8 hZ8) Z).1 h)
          have J6 := hJ _ _ _ J5 (turn_setCell _ ⟨Z, 1, none⟩ (.int .i64 q2.2) (Nat.le_refl _) nZ5)
          have nZ6 : ¬ RowOf b8 ((W4.setCell ⟨Z, 0, none⟩ (.int .i64 q2.1)).setCell ⟨Z, 1, none⟩ (.int .i64 q2.2)) Z := fun h => nZ5 ((rowOf_same (Below.heap_setCell _ _ _ b8 hZ8) Z).1 h)
          have lZ : bl ≠ Z := hbL.ne_ hbZ (by decide)
          have dZ : bd ≠ Z := hbD.ne_ hbZ (by decide)
          have hR4 : R (6 - (pre ++ [q]).length) (.bool true) ((W4.setCell ⟨Z, 0, none⟩ (.int .i64 q2.1)).setCell ⟨Z, 1, none⟩ (.int .i64 q2.2)) := by
            rw [hR]
            refine ⟨pre ++ [q], q2, by rw [HNX.out, hnx]; rfl, (fun q' h => by rw [HNX.out, hnx] at h; cases h; rfl), HCH.out, J6, by simp; omega, (bZ4.set_ 0 _).set_ 1 _, ((bL3.below hk4 bL3.lt).far (p := ⟨Z, 0, none⟩) lZ _).far (p := ⟨Z, 1, none⟩) lZ _, ((bD3.below hk4 bD3.lt).far (p := ⟨Z, 0, none⟩) dZ _).far (p := ⟨Z, 1, none⟩) dZ _, ?_, nZ6, ?_⟩
            · exact (hO3.below (Below.mono hk4 hn0W)).below (((Below.refl n₀ W4).setCell (p := ⟨Z, 0, none⟩) hnZ _).setCell (p := ⟨Z, 1, none⟩) hnZ _)
            · simpa using bZ4.lt
          have hms := (leastOf_spec (p := fun m => R m (.bool true) ((W4.setCell ⟨Z, 0, none⟩ (.int .i64 q2.1)).setCell ⟨Z, 1, none⟩ (.int .i64 q2.2))) ⟨_, hR4⟩).2 _ hR4
          simp only [List.length_append, List.length_cons, List.length_nil] at hms
          have HMS := Lib.hid hms; clear hms
          have HR4 := Lib.hid hR4; clear hR4
          go_roundw
          case rel => exact ⟨_, HR4.out⟩
          case measure =>
            have hml := HML.out
            rw [HIT.out] at hml
            exact Nat.lt_of_le_of_lt HMS.out (by rw [hml]; omega)
      · gi_wp2
        refine bodyPost_ret (results_none rfl _ _ _) rfl ?_
        exact ⟨⟨_, rfl⟩, .inr ⟨pre ++ [q], HCH.out, hJx3⟩⟩
end Go.Proofs.Ytajobinkabdmkaa
