/- What forward.Final and the reference's Final return; that 'head' is true. Conditions: at most 10^12 orders. -/
import Derived.Test.YtajobinkabdmkaaH
import Derived.Maps.OwnIn
import Derived.RangeFuncNested
import Derived.RangeFuncCalls
import Derived.RangeFuncLeaves
import Derived.Shelf.Abstract
import Derived.OwnWalkIn
import Derived.TacticsInMore
import Derived.LoopNIn
import Derived.LoopIn
import Derived.Test.YtajobinkabdmkaaA
import Derived.Test.YtajobinkabdmkaaG
import Derived.Test.YtajobinkabdmkaaM
import Derived.Test.YtajobinkabdmkaaRows
import Derived.WalkKit
import Derived.WalkSpells
import Derived.WalkLawsBesides
import Derived.Laws.EntriesVeiled
import Derived.ProofKit
import Derived.OpenShut
import Derived.Lib.Hide
import Derived.BigQuiet
import Derived.Deep.QuietTactic
import Derived.Below
import Derived.Laws.OwnMore
import Derived.Deep.AppendLies
import Derived.Deep.Draws
import Derived.Laws.Rows
import Derived.Maps.AppendAt
import Derived.RegionTactic
import Derived.OwnWalk
import Derived.Deep.RegionHeld3
namespace Go.Proofs.Ytajobinkabdmkaa
open Go.Shelf Go.ChangeShapes Go.WideShapes Go.ChangeAt Go.RowKit
set_option linter.unusedSimpArgs false
set_option linter.unusedVariables false
def finalF (l : List Ordr) (d : Int) (p s : Pt) : Pt × Bool :=
  if (followF l d p).2 = 0 then (((followF l d p).1.getLast?).getD s, false) else (s, true)
def FinalPost (r : Pt × Bool) (w : World) (e : Ending) (w' : World) : Prop := e = .returned (.tuple #[.agg #[.int .i64 r.1.1, .int .i64 r.1.2], .bool r.2]) ∧ Keeps w w'
theorem final_post {r : Pt × Bool} {x y : Int} {b : Bool} {w w' : World} (h : r = ((x, y), b)) (hk : Keeps w w') : FinalPost r w (.returned (.tuple #[.agg #[.int .i64 x, .int .i64 y], .bool b])) w' := by
  subst h; exact ⟨rfl, hk⟩
theorem walk_snoc {nx : Pt → Option Pt} : ∀ (f : Nat) (ch : List Pt) (p : Pt), ch ≠ [] → ch.length ≤ 5 → (walkF nx f ch p).1.length ≤ 5 ∧ ((walkF nx f ch p).2 = 0 → ∃ init q, (walkF nx f ch p).1 = init ++ [q])
  | 0, ch, p, _, _ => by simp [walkF]
  | f + 1, ch, p, hne, h5 => by
    cases hnx : nx p with
    | none => rw [walk_end hnx]; exact ⟨h5, fun _ => ⟨ch.dropLast, ch.getLast hne, (List.dropLast_concat_getLast _).symm⟩⟩
    | some q =>
      cases hc : ch.contains q with
      | true => rw [walk_loop hnx hc]; simp
      | false =>
        by_cases hl : ch.length = 5
        · rw [walk_limit hnx hc hl]; simp
        · rw [walk_go hnx hc hl]
          exact walk_snoc f (ch ++ [q]) q (by simp) (by simp; omega)
theorem follow_snoc {l : List Ordr} {d : Int} {p : Pt} (h : (followF l d p).2 = 0) : ∃ init q, (followF l d p).1 = init ++ [q] := by
  unfold followF at *
  split at h
  · rename_i hv
    rw [if_pos hv]
    exact (walk_snoc 5 [p] p (by simp) (by simp)).2 h
  · simp at h
theorem follow_len (l : List Ordr) (d : Int) (p : Pt) : (followF l d p).1.length ≤ 5 := by
  unfold followF
  split
  · exact (walk_snoc 5 [p] p (by simp) (by simp)).1
  · simp

set_option maxHeartbeats 1000000 in
theorem final_any (l : List Ordr) (A : Option Addr) (c : Nat) (day px py sx sy : Int) (w : World) (hl : Ords w w.heap.size A l) (hn : l.length ≤ 1000000000000) :
    Calls Try.prog 12 #[.slice A l.length c, .int .i64 day, .agg #[.int .i64 px, .int .i64 py], .agg #[.int .i64 sx, .int .i64 sy]] w (FinalPost (finalF l day (px, py) (sx, sy)) w) := by
  have b1 : Blk (((w.alloc (.cells #[Value.int .i64 px, .int .i64 py] 24)).alloc (.cells #[Value.int .i64 sx, .int .i64 sy] 24)).alloc (.cells #[Value.int .i64 0, .int .i64 0] 24)) (w.heap.size + 1) 24 #[Value.int .i64 sx, .int .i64 sy] := by
    have h := Blk.new (w.alloc (.cells #[Value.int .i64 px, .int .i64 py] 24)) 24 #[Value.int .i64 sx, .int .i64 sy]
    rw [World.size_alloc] at h; exact h.alloc _
  have b2 : Blk (((w.alloc (.cells #[Value.int .i64 px, .int .i64 py] 24)).alloc (.cells #[Value.int .i64 sx, .int .i64 sy] 24)).alloc (.cells #[Value.int .i64 0, .int .i64 0] 24)) (w.heap.size + 1 + 1) 24 #[Value.int .i64 0, .int .i64 0] := by
    have h := Blk.new ((w.alloc (.cells #[Value.int .i64 px, .int .i64 py] 24)).alloc (.cells #[Value.int .i64 sx, .int .i64 sy] 24)) 24 #[Value.int .i64 0, .int .i64 0]
    rw [World.size_alloc, World.size_alloc] at h; exact h
  have k0 : Keeps w (((w.alloc (.cells #[Value.int .i64 px, .int .i64 py] 24)).alloc (.cells #[Value.int .i64 sx, .int .i64 sy] 24)).alloc (.cells #[Value.int .i64 0, .int .i64 0] 24)) := (((Keeps.refl w).alloc _).alloc _).alloc _
  have z0 : w.heap.size + 3 ≤ (((w.alloc (.cells #[Value.int .i64 px, .int .i64 py] 24)).alloc (.cells #[Value.int .i64 sx, .int .i64 sy] 24)).alloc (.cells #[Value.int .i64 0, .int .i64 0] 24)).heap.size := by simp
  go_enter Try.func12, Try.ntmps12
  go_wp2_with fail
  generalize ((w.alloc (.cells #[Value.int .i64 px, .int .i64 py] 24)).alloc (.cells #[Value.int .i64 sx, .int .i64 sy] 24)).alloc (.cells #[Value.int .i64 0, .int .i64 0] 24) = W0 at *
  refine (follow_any l A c day px py _ ((hl.below k0).more (by omega)) hn).mono ?_
  rintro e W1 ⟨A1, c1, rfl, hlc, hpts, hk1⟩
  have d1 := b1.below hk1 (by omega)
  have d2 := b2.below hk1 (by omega)
  have s0 : W1.cell? ⟨w.heap.size + 1, 0, none⟩ = some (.int .i64 sx) := cell_of_blk d1 0 rfl
  have s1 : W1.cell? ⟨w.heap.size + 1, 1, none⟩ = some (.int .i64 sy) := cell_of_blk d1 1 rfl
  have r0 : W1.cell? ⟨w.heap.size + 1 + 1, 0, none⟩ = some (.int .i64 0) := cell_of_blk d2 0 rfl
  have r1 : W1.cell? ⟨w.heap.size + 1 + 1, 1, none⟩ = some (.int .i64 0) := cell_of_blk d2 1 rfl
  have f0 := d2.frozen 0
  have f1 := d2.frozen 1
  have hK : Keeps w W1 := k0.trans hk1
  cases he : ((followF l day (px, py)).2 != 0)
  · have he0 : (followF l day (px, py)).2 = 0 := by simpa using he
    obtain ⟨init, q, hq⟩ := follow_snoc he0
    have E := Lib.hid (show finalF l day (px, py) (sx, sy) = ((q.1, q.2), false) by simp [finalF, he0, hq])
    have hlen : (followF l day (px, py)).1.length = init.length + 1 := by rw [hq]; simp
    have hat : (followF l day (px, py)).1[init.length]? = some q := by rw [hq]; simp
    obtain ⟨b, off, rfl, hb, x0, x1⟩ := hpts _ _ hat
    have hl5 := follow_len l day (px, py)
    rw [hlen]
    have hLE : init.length + 1 ≤ 1000000000000 := by omega
    clear hpts hat hlen he0 hlc hl5
    generalize followF l day (px, py) = r at *
    generalize init.length = m at *
    have HQ := Lib.hid hq; clear hq
    go_wp2_with fail
    refine bodyPost_ret (v := .tuple #[.agg #[.int .i64 q.1, .int .i64 q.2], .bool false]) ?_ rfl ?_
    · simp [results, Try.results12, go_sem, r0, r1]
    · exact final_post E.out ((hK.setCell (by simp; omega) _).setCell (by simp; omega) _)
  · have he0 : (followF l day (px, py)).2 ≠ 0 := by simpa using he
    have E := Lib.hid (show finalF l day (px, py) (sx, sy) = ((sx, sy), true) by simp [finalF, he0])
    generalize followF l day (px, py) = r at *
    clear he0
    go_wp2_with fail
    refine bodyPost_ret (v := .tuple #[.agg #[.int .i64 sx, .int .i64 sy], .bool true]) ?_ rfl ?_
    · simp [results, Try.results12, go_sem, r0, r1]
    · exact final_post E.out ((hK.setCell (by simp; omega) _).setCell (by simp; omega) _)

set_option maxHeartbeats 1000000 in
theorem rfinal_any (l : List Ordr) (A : Option Addr) (c : Nat) (day px py sx sy : Int) (w : World) (hl : Ords w w.heap.size A l) (hn : l.length ≤ 1000000000000) :
    Calls Try.prog 13 #[.slice A l.length c, .int .i64 day, .agg #[.int .i64 px, .int .i64 py], .agg #[.int .i64 sx, .int .i64 sy]] w (FinalPost (finalF l day (px, py) (sx, sy)) w) := by
  have b1 : Blk (((w.alloc (.cells #[Value.int .i64 px, .int .i64 py] 24)).alloc (.cells #[Value.int .i64 sx, .int .i64 sy] 24)).alloc (.cells #[Value.int .i64 0, .int .i64 0] 24)) (w.heap.size + 1) 24 #[Value.int .i64 sx, .int .i64 sy] := by
    have h := Blk.new (w.alloc (.cells #[Value.int .i64 px, .int .i64 py] 24)) 24 #[Value.int .i64 sx, .int .i64 sy]
    rw [World.size_alloc] at h; exact h.alloc _
  have b2 : Blk (((w.alloc (.cells #[Value.int .i64 px, .int .i64 py] 24)).alloc (.cells #[Value.int .i64 sx, .int .i64 sy] 24)).alloc (.cells #[Value.int .i64 0, .int .i64 0] 24)) (w.heap.size + 1 + 1) 24 #[Value.int .i64 0, .int .i64 0] := by
    have h := Blk.new ((w.alloc (.cells #[Value.int .i64 px, .int .i64 py] 24)).alloc (.cells #[Value.int .i64 sx, .int .i64 sy] 24)) 24 #[Value.int .i64 0, .int .i64 0]
    rw [World.size_alloc, World.size_alloc] at h; exact h
  have k0 : Keeps w (((w.alloc (.cells #[Value.int .i64 px, .int .i64 py] 24)).alloc (.cells #[Value.int .i64 sx, .int .i64 sy] 24)).alloc (.cells #[Value.int .i64 0, .int .i64 0] 24)) := (((Keeps.refl w).alloc _).alloc _).alloc _
  have z0 : w.heap.size + 3 ≤ (((w.alloc (.cells #[Value.int .i64 px, .int .i64 py] 24)).alloc (.cells #[Value.int .i64 sx, .int .i64 sy] 24)).alloc (.cells #[Value.int .i64 0, .int .i64 0] 24)).heap.size := by simp
  go_enter Try.func13, Try.ntmps13
  go_wp2_with fail
  generalize ((w.alloc (.cells #[Value.int .i64 px, .int .i64 py] 24)).alloc (.cells #[Value.int .i64 sx, .int .i64 sy] 24)).alloc (.cells #[Value.int .i64 0, .int .i64 0] 24) = W0 at *
  refine (rfollow_any l A c day px py _ ((hl.below k0).more (by omega)) hn).mono ?_
  rintro e W1 ⟨A1, c1, rfl, hlc, hpts, hk1⟩
  have d1 := b1.below hk1 (by omega)
  have d2 := b2.below hk1 (by omega)
  have s0 : W1.cell? ⟨w.heap.size + 1, 0, none⟩ = some (.int .i64 sx) := cell_of_blk d1 0 rfl
  have s1 : W1.cell? ⟨w.heap.size + 1, 1, none⟩ = some (.int .i64 sy) := cell_of_blk d1 1 rfl
  have r0 : W1.cell? ⟨w.heap.size + 1 + 1, 0, none⟩ = some (.int .i64 0) := cell_of_blk d2 0 rfl
  have r1 : W1.cell? ⟨w.heap.size + 1 + 1, 1, none⟩ = some (.int .i64 0) := cell_of_blk d2 1 rfl
  have f0 := d2.frozen 0
  have f1 := d2.frozen 1
  have hK : Keeps w W1 := k0.trans hk1
  cases he : ((followF l day (px, py)).2 != 0)
  · have he0 : (followF l day (px, py)).2 = 0 := by simpa using he
    obtain ⟨init, q, hq⟩ := follow_snoc he0
    have E := Lib.hid (show finalF l day (px, py) (sx, sy) = ((q.1, q.2), false) by simp [finalF, he0, hq])
    have hlen : (followF l day (px, py)).1.length = init.length + 1 := by rw [hq]; simp
    have hat : (followF l day (px, py)).1[init.length]? = some q := by rw [hq]; simp
    obtain ⟨b, off, rfl, hb, x0, x1⟩ := hpts _ _ hat
    have hl5 := follow_len l day (px, py)
    rw [hlen]
    have hLE : init.length + 1 ≤ 1000000000000 := by omega
    clear hpts hat hlen he0 hlc hl5
    generalize followF l day (px, py) = r at *
    generalize init.length = m at *
    have HQ := Lib.hid hq; clear hq
    go_wp2_with fail
    refine bodyPost_ret (v := .tuple #[.agg #[.int .i64 q.1, .int .i64 q.2], .bool false]) ?_ rfl ?_
    · simp [results, Try.results13, go_sem, r0, r1]
    · exact final_post E.out ((hK.setCell (by simp; omega) _).setCell (by simp; omega) _)
  · have he0 : (followF l day (px, py)).2 ≠ 0 := by simpa using he
    have E := Lib.hid (show finalF l day (px, py) (sx, sy) = ((sx, sy), true) by simp [finalF, he0])
    generalize followF l day (px, py) = r at *
    clear he0
    go_wp2_with fail
    refine bodyPost_ret (v := .tuple #[.agg #[.int .i64 sx, .int .i64 sy], .bool true]) ?_ rfl ?_
    · simp [results, Try.results13, go_sem, r0, r1]
    · exact final_post E.out ((hK.setCell (by simp; omega) _).setCell (by simp; omega) _)
def ordCells (l : List Ordr) : List Value := l.flatMap fun o => [.int .i64 o.f.1, .int .i64 o.f.2, .int .i64 o.t.1, .int .i64 o.t.2, .int .i64 o.a, .int .i64 o.z]
theorem ordCells_length (l : List Ordr) : (ordCells l).length = l.length * 6 := by
  unfold ordCells; induction l with
  | nil => rfl
  | cons a l ih => simp [ih] at *; omega
theorem ordCells_append (l m : List Ordr) : ordCells (l ++ m) = ordCells l ++ ordCells m := by simp [ordCells]
theorem ordCells_at : ∀ (l : List Ordr) (k : Nat) (o : Ordr), l[k]? = some o → (ordCells l)[k * 6]? = some (.int .i64 o.f.1) ∧ (ordCells l)[k * 6 + 1]? = some (.int .i64 o.f.2) ∧ (ordCells l)[k * 6 + 2]? = some (.int .i64 o.t.1) ∧
    (ordCells l)[k * 6 + 3]? = some (.int .i64 o.t.2) ∧ (ordCells l)[k * 6 + 4]? = some (.int .i64 o.a) ∧ (ordCells l)[k * 6 + 5]? = some (.int .i64 o.z)
  | [], k, p, h => by simp at h
  | a :: l, 0, p, h => by simp at h; subst h; simp [ordCells]
  | a :: l, k + 1, p, h => by
    have := ordCells_at l k p (by simpa using h)
    unfold ordCells at *
    simp only [List.flatMap_cons, List.cons_append, List.nil_append]
    rw [show (k + 1) * 6 = k * 6 + 1 + 1 + 1 + 1 + 1 + 1 by omega]
    simpa using this
theorem pts_of_blk {W : World} {g B : Nat} {l : List Pt} {cs : Array Value} (h : Blk W g 24 cs) (hcs : cs.toList = ptCells l) (hB : g < B) : Pts W B (some ⟨g, 0, none⟩) l := fun k p hk => by
  obtain ⟨h0, h1⟩ := ptCells_at l k p hk
  rw [← hcs] at h0 h1
  refine ⟨g, 0, rfl, hB, ?_, ?_⟩
  · rw [Nat.zero_add]; exact (h.cell _).trans (by simpa using h0)
  · rw [Nat.zero_add]; exact (h.cell _).trans (by simpa using h1)
theorem ords_of_blk {W : World} {g B : Nat} {l : List Ordr} {cs : Array Value} (h : Blk W g 39 cs) (hcs : cs.toList = ordCells l) (hB : g < B) : Ords W B (some ⟨g, 0, none⟩) l := fun k p hk => by
  obtain ⟨h0, h1, h2, h3, h4, h5⟩ := ordCells_at l k p hk
  rw [← hcs] at h0 h1 h2 h3 h4 h5
  refine ⟨g, 0, rfl, hB, ?_, ?_, ?_, ?_, ?_, ?_⟩ <;> rw [Nat.zero_add]
  · exact (h.cell _).trans (by simpa using h0)
  · exact (h.cell _).trans (by simpa using h1)
  · exact (h.cell _).trans (by simpa using h2)
  · exact (h.cell _).trans (by simpa using h3)
  · exact (h.cell _).trans (by simpa using h4)
  · exact (h.cell _).trans (by simpa using h5)
theorem Pts.keep {w w' : World} {A : Option Addr} {l : List Pt} (h : Pts w w.heap.size A l) (hk : Keeps w w') : Pts w' w'.heap.size A l := (Pts.below h hk).more (Below.size hk)
theorem Ords.keep {w w' : World} {A : Option Addr} {l : List Ordr} (h : Ords w w.heap.size A l) (hk : Keeps w w') : Ords w' w'.heap.size A l := (Ords.below h hk).more (Below.size hk)
def exL : List Ordr := [⟨(0, 1), (0, 2), 1, 9⟩, ⟨(0, 2), (1, 1), 5, 9⟩, ⟨(1, 1), (0, 1), 8, 9⟩]
set_option maxHeartbeats 1000000 in
theorem example_any (w : World) : Calls Try.prog 18 #[] w fun e w' => ∃ g, e = .returned (.slice (some ⟨g, 0, none⟩) 3 3) ∧ Blk w' g 39 (ordCells exL).toArray ∧ Keeps w w' := by
  go_enter Try.func18, Try.ntmps18
  go_wp2
  go_ret
  refine ⟨_, rfl, ?_, ?_⟩
  · have h := Blk.new (((w.alloc (.cells #[Value.int .i64 0, .int .i64 1] 24)).alloc (.cells #[Value.int .i64 0, .int .i64 2] 24)).alloc (.cells #[Value.int .i64 1, .int .i64 1] 24)) 39 (ordCells exL).toArray
    rw [World.size_alloc, World.size_alloc, World.size_alloc] at h
    exact h
  · exact ((((Keeps.refl _).alloc _).alloc _).alloc _).alloc _
theorem ex1 : followF exL 0 (0, 1) = ([(0, 1)], 0) := by decide
theorem ex2 : followF exL 5 (0, 1) = ([(0, 1), (0, 2), (1, 1)], 0) := by decide
theorem ex3 : followF exL 8 (0, 1) = ([], 70) := by decide
theorem ex4 : finalF exL 1 (0, 1) (1, 1) = ((0, 2), false) := by decide
theorem ex5 : finalF exL 8 (0, 1) (0, 2) = ((0, 2), true) := by decide
def badL : List Ordr := [⟨(0, 1), (0, 1), 0, 0⟩]
theorem ex6 : followF badL 0 (0, 1) = ([], 1) := by decide
theorem ex7 : validF exL = true := by decide
theorem ex8 : validF badL = false := by decide

theorem follow_is (l : List Ordr) (A : Option Addr) (n c : Nat) (day px py : Int) (w : World) (hl : Ords w w.heap.size A l) (hn : l.length ≤ 1000000000000) (hln : n = l.length) (r : List Pt × Int) (hr : followF l day (px, py) = r) :
    Calls Try.prog 10 #[.slice A n c, .int .i64 day, .agg #[.int .i64 px, .int .i64 py]] w (FollowPost r w) := by
  subst hln; subst hr; exact follow_any l A c day px py w hl hn
theorem final_is (l : List Ordr) (A : Option Addr) (n c : Nat) (day px py sx sy : Int) (w : World) (hl : Ords w w.heap.size A l) (hn : l.length ≤ 1000000000000) (hln : n = l.length) (r : Pt × Bool) (hr : finalF l day (px, py) (sx, sy) = r) :
    Calls Try.prog 12 #[.slice A n c, .int .i64 day, .agg #[.int .i64 px, .int .i64 py], .agg #[.int .i64 sx, .int .i64 sy]] w (FinalPost r w) := by
  subst hln; subst hr; exact final_any l A c day px py sx sy w hl hn
theorem valid_is (l : List Ordr) (A : Option Addr) (n c : Nat) (w : World) (hl : Ords w w.heap.size A l) (hn : l.length ≤ 1000000000000) (hln : n = l.length) (r : Bool) (hr : validF l = r) :
    Calls Try.prog 15 #[.slice A n c] w (BoolPost r w) := by
  subst hln; subst hr; exact valid_any l A c w hl hn
theorem same_is (l m : List Pt) (A A' : Option Addr) (n n' c c' : Nat) (w : World) (hl : Pts w w.heap.size A l) (hm : Pts w w.heap.size A' m) (hn : l.length ≤ 1000000000000) (hn' : m.length ≤ 1000000000000) (e1 : n = l.length) (e2 : n' = m.length) (r : Bool) (hr : decide (l = m) = r) :
    Calls Try.prog 14 #[.slice A n c, .slice A' n' c'] w (BoolPost r w) := by
  subst e1; subst e2; subst hr; exact same_any l m A A' c c' w hl hm hn hn'

set_option maxRecDepth 100000 in
set_option maxHeartbeats 4000000 in
theorem head_any (w : World) : Calls Try.prog 9 #[] w (BoolPost true w) := by
  go_enter Try.func9, Try.ntmps9
  go_wp2_with fail
  refine (example_any w).mono ?_
  rintro e W1 ⟨g, rfl, bg, hk⟩
  have hg := bg.lt
  have g0 : W1.cell? ⟨g, 0, none⟩ = some (.int .i64 0) := cell_of_blk bg 0 rfl
  have g1 : W1.cell? ⟨g, 1, none⟩ = some (.int .i64 1) := cell_of_blk bg 1 rfl
  have g2 : W1.cell? ⟨g, 2, none⟩ = some (.int .i64 0) := cell_of_blk bg 2 rfl
  have g3 : W1.cell? ⟨g, 3, none⟩ = some (.int .i64 2) := cell_of_blk bg 3 rfl
  have g4 : W1.cell? ⟨g, 4, none⟩ = some (.int .i64 1) := cell_of_blk bg 4 rfl
  have g5 : W1.cell? ⟨g, 5, none⟩ = some (.int .i64 9) := cell_of_blk bg 5 rfl
  have g6 : W1.cell? ⟨g, 6, none⟩ = some (.int .i64 0) := cell_of_blk bg 6 rfl
  have g7 : W1.cell? ⟨g, 7, none⟩ = some (.int .i64 2) := cell_of_blk bg 7 rfl
  have g8 : W1.cell? ⟨g, 8, none⟩ = some (.int .i64 1) := cell_of_blk bg 8 rfl
  have g9 : W1.cell? ⟨g, 9, none⟩ = some (.int .i64 1) := cell_of_blk bg 9 rfl
  have g10 : W1.cell? ⟨g, 10, none⟩ = some (.int .i64 5) := cell_of_blk bg 10 rfl
  have g11 : W1.cell? ⟨g, 11, none⟩ = some (.int .i64 9) := cell_of_blk bg 11 rfl
  have g12 : W1.cell? ⟨g, 12, none⟩ = some (.int .i64 1) := cell_of_blk bg 12 rfl
  have g13 : W1.cell? ⟨g, 13, none⟩ = some (.int .i64 1) := cell_of_blk bg 13 rfl
  have g14 : W1.cell? ⟨g, 14, none⟩ = some (.int .i64 0) := cell_of_blk bg 14 rfl
  have g15 : W1.cell? ⟨g, 15, none⟩ = some (.int .i64 1) := cell_of_blk bg 15 rfl
  have g16 : W1.cell? ⟨g, 16, none⟩ = some (.int .i64 8) := cell_of_blk bg 16 rfl
  have g17 : W1.cell? ⟨g, 17, none⟩ = some (.int .i64 9) := cell_of_blk bg 17 rfl
  go_wp2_with fail
  have ba : Blk (((W1.alloc (.cells #[Value.int .i64 0, .int .i64 1] 24)).alloc (.cells #[Value.int .i64 0, .int .i64 2] 24)).alloc (.cells #[Value.int .i64 1, .int .i64 1] 24)) W1.heap.size 24 #[.int .i64 0, .int .i64 1] := ((Blk.new W1 _ _).alloc _).alloc _
  have bb : Blk (((W1.alloc (.cells #[Value.int .i64 0, .int .i64 1] 24)).alloc (.cells #[Value.int .i64 0, .int .i64 2] 24)).alloc (.cells #[Value.int .i64 1, .int .i64 1] 24)) (W1.heap.size + 1) 24 #[.int .i64 0, .int .i64 2] := by
    have h := Blk.new (W1.alloc (.cells #[Value.int .i64 0, .int .i64 1] 24)) 24 #[Value.int .i64 0, .int .i64 2]
    rw [World.size_alloc] at h; exact h.alloc _
  have bc : Blk (((W1.alloc (.cells #[Value.int .i64 0, .int .i64 1] 24)).alloc (.cells #[Value.int .i64 0, .int .i64 2] 24)).alloc (.cells #[Value.int .i64 1, .int .i64 1] 24)) (W1.heap.size + 1 + 1) 24 #[.int .i64 1, .int .i64 1] := by
    have h := Blk.new ((W1.alloc (.cells #[Value.int .i64 0, .int .i64 1] 24)).alloc (.cells #[Value.int .i64 0, .int .i64 2] 24)) 24 #[Value.int .i64 1, .int .i64 1]
    rw [World.size_alloc, World.size_alloc] at h; exact h
  have bg2 : Blk (((W1.alloc (.cells #[Value.int .i64 0, .int .i64 1] 24)).alloc (.cells #[Value.int .i64 0, .int .i64 2] 24)).alloc (.cells #[Value.int .i64 1, .int .i64 1] 24)) g 39 (ordCells exL).toArray := ((bg.alloc _).alloc _).alloc _
  have k2 : Keeps w (((W1.alloc (.cells #[Value.int .i64 0, .int .i64 1] 24)).alloc (.cells #[Value.int .i64 0, .int .i64 2] 24)).alloc (.cells #[Value.int .i64 1, .int .i64 1] 24)) := ((hk.alloc _).alloc _).alloc _
  clear g0 g1 g2 g3 g4 g5 g6 g7 g8 g9 g10 g11 g12 g13 g14 g15 g16 g17
  generalize ((W1.alloc (.cells #[Value.int .i64 0, .int .i64 1] 24)).alloc (.cells #[Value.int .i64 0, .int .i64 2] 24)).alloc (.cells #[Value.int .i64 1, .int .i64 1] 24) = W2 at *
  refine (follow_is exL (some ⟨g, 0, none⟩) 3 3 _ _ _ _ (ords_of_blk bg2 rfl bg2.lt) (by decide) rfl _ ex1).mono ?_
  rintro e V0 ⟨A0, c0, rfl, hc0, p0, h0⟩
  have bg2_1 := bg2.below h0 bg2.lt; clear bg2
  have ba_1 := ba.below h0 ba.lt; clear ba
  have bb_1 := bb.below h0 bb.lt; clear bb
  have bc_1 := bc.below h0 bc.lt; clear bc
  have k_1 := k2.trans h0; clear k2
  have ba_1x : V0.cell? ⟨W1.heap.size, 0, none⟩ = some (.int .i64 0) := cell_of_blk ba_1 0 rfl
  have ba_1y : V0.cell? ⟨W1.heap.size, 1, none⟩ = some (.int .i64 1) := cell_of_blk ba_1 1 rfl
  have ba_1z := ba_1.lt
  have bb_1x : V0.cell? ⟨W1.heap.size + 1, 0, none⟩ = some (.int .i64 0) := cell_of_blk bb_1 0 rfl
  have bb_1y : V0.cell? ⟨W1.heap.size + 1, 1, none⟩ = some (.int .i64 2) := cell_of_blk bb_1 1 rfl
  have bb_1z := bb_1.lt
  have bc_1x : V0.cell? ⟨W1.heap.size + 1 + 1, 0, none⟩ = some (.int .i64 1) := cell_of_blk bc_1 0 rfl
  have bc_1y : V0.cell? ⟨W1.heap.size + 1 + 1, 1, none⟩ = some (.int .i64 1) := cell_of_blk bc_1 1 rfl
  have bc_1z := bc_1.lt
  go_wp2_with fail
  clear ba_1x ba_1y ba_1z
  clear bb_1x bb_1y bb_1z
  clear bc_1x bc_1y bc_1z
  refine (follow_is exL (some ⟨g, 0, none⟩) 3 3 _ _ _ _ (ords_of_blk bg2_1 rfl bg2_1.lt) (by decide) rfl _ ex2).mono ?_
  rintro e V1 ⟨A1, c1, rfl, hc1, p1, h1⟩
  have bg2_2 := bg2_1.below h1 bg2_1.lt; clear bg2_1
  have ba_2 := ba_1.below h1 ba_1.lt; clear ba_1
  have bb_2 := bb_1.below h1 bb_1.lt; clear bb_1
  have bc_2 := bc_1.below h1 bc_1.lt; clear bc_1
  have p0_2 := p0.keep h1; clear p0
  have k_2 := k_1.trans h1; clear k_1
  have ba_2x : V1.cell? ⟨W1.heap.size, 0, none⟩ = some (.int .i64 0) := cell_of_blk ba_2 0 rfl
  have ba_2y : V1.cell? ⟨W1.heap.size, 1, none⟩ = some (.int .i64 1) := cell_of_blk ba_2 1 rfl
  have ba_2z := ba_2.lt
  have bb_2x : V1.cell? ⟨W1.heap.size + 1, 0, none⟩ = some (.int .i64 0) := cell_of_blk bb_2 0 rfl
  have bb_2y : V1.cell? ⟨W1.heap.size + 1, 1, none⟩ = some (.int .i64 2) := cell_of_blk bb_2 1 rfl
  have bb_2z := bb_2.lt
  have bc_2x : V1.cell? ⟨W1.heap.size + 1 + 1, 0, none⟩ = some (.int .i64 1) := cell_of_blk bc_2 0 rfl
  have bc_2y : V1.cell? ⟨W1.heap.size + 1 + 1, 1, none⟩ = some (.int .i64 1) := cell_of_blk bc_2 1 rfl
  have bc_2z := bc_2.lt
  go_wp2_with fail
  clear ba_2x ba_2y ba_2z
  clear bb_2x bb_2y bb_2z
  clear bc_2x bc_2y bc_2z
  refine (follow_is exL (some ⟨g, 0, none⟩) 3 3 _ _ _ _ (ords_of_blk bg2_2 rfl bg2_2.lt) (by decide) rfl _ ex3).mono ?_
  rintro e V2 ⟨A2, c2, rfl, hc2, p2, h2⟩
  have bg2_3 := bg2_2.below h2 bg2_2.lt; clear bg2_2
  have ba_3 := ba_2.below h2 ba_2.lt; clear ba_2
  have bb_3 := bb_2.below h2 bb_2.lt; clear bb_2
  have bc_3 := bc_2.below h2 bc_2.lt; clear bc_2
  have p0_3 := p0_2.keep h2; clear p0_2
  have p1_3 := p1.keep h2; clear p1
  have k_3 := k_2.trans h2; clear k_2
  have ba_3x : V2.cell? ⟨W1.heap.size, 0, none⟩ = some (.int .i64 0) := cell_of_blk ba_3 0 rfl
  have ba_3y : V2.cell? ⟨W1.heap.size, 1, none⟩ = some (.int .i64 1) := cell_of_blk ba_3 1 rfl
  have ba_3z := ba_3.lt
  have bb_3x : V2.cell? ⟨W1.heap.size + 1, 0, none⟩ = some (.int .i64 0) := cell_of_blk bb_3 0 rfl
  have bb_3y : V2.cell? ⟨W1.heap.size + 1, 1, none⟩ = some (.int .i64 2) := cell_of_blk bb_3 1 rfl
  have bb_3z := bb_3.lt
  have bc_3x : V2.cell? ⟨W1.heap.size + 1 + 1, 0, none⟩ = some (.int .i64 1) := cell_of_blk bc_3 0 rfl
  have bc_3y : V2.cell? ⟨W1.heap.size + 1 + 1, 1, none⟩ = some (.int .i64 1) := cell_of_blk bc_3 1 rfl
  have bc_3z := bc_3.lt
  go_wp2_with fail
  clear ba_3x ba_3y ba_3z
  clear bb_3x bb_3y bb_3z
  clear bc_3x bc_3y bc_3z
  refine (final_is exL (some ⟨g, 0, none⟩) 3 3 _ _ _ _ _ _ (ords_of_blk bg2_3 rfl bg2_3.lt) (by decide) rfl _ ex4).mono ?_
  rintro e V3 ⟨rfl, h3⟩
  have bg2_4 := bg2_3.below h3 bg2_3.lt; clear bg2_3
  have ba_4 := ba_3.below h3 ba_3.lt; clear ba_3
  have bb_4 := bb_3.below h3 bb_3.lt; clear bb_3
  have bc_4 := bc_3.below h3 bc_3.lt; clear bc_3
  have p0_4 := p0_3.keep h3; clear p0_3
  have p1_4 := p1_3.keep h3; clear p1_3
  have k_4 := k_3.trans h3; clear k_3
  have ba_4x : V3.cell? ⟨W1.heap.size, 0, none⟩ = some (.int .i64 0) := cell_of_blk ba_4 0 rfl
  have ba_4y : V3.cell? ⟨W1.heap.size, 1, none⟩ = some (.int .i64 1) := cell_of_blk ba_4 1 rfl
  have ba_4z := ba_4.lt
  have bb_4x : V3.cell? ⟨W1.heap.size + 1, 0, none⟩ = some (.int .i64 0) := cell_of_blk bb_4 0 rfl
  have bb_4y : V3.cell? ⟨W1.heap.size + 1, 1, none⟩ = some (.int .i64 2) := cell_of_blk bb_4 1 rfl
  have bb_4z := bb_4.lt
  have bc_4x : V3.cell? ⟨W1.heap.size + 1 + 1, 0, none⟩ = some (.int .i64 1) := cell_of_blk bc_4 0 rfl
  have bc_4y : V3.cell? ⟨W1.heap.size + 1 + 1, 1, none⟩ = some (.int .i64 1) := cell_of_blk bc_4 1 rfl
  have bc_4z := bc_4.lt
  go_wp2_with fail
  clear ba_4x ba_4y ba_4z
  clear bb_4x bb_4y bb_4z
  clear bc_4x bc_4y bc_4z
  have hy := (Keeps.refl V3).alloc (.cells #[Value.int .i64 0, .int .i64 2] 24)
  have by0 := Blk.new V3 24 #[Value.int .i64 0, .int .i64 2]
  have bg2_5 := bg2_4.below hy bg2_4.lt; clear bg2_4
  have ba_5 := ba_4.below hy ba_4.lt; clear ba_4
  have bb_5 := bb_4.below hy bb_4.lt; clear bb_4
  have bc_5 := bc_4.below hy bc_4.lt; clear bc_4
  have p0_5 := p0_4.keep hy; clear p0_4
  have p1_5 := p1_4.keep hy; clear p1_4
  have k_5 := k_4.trans hy; clear k_4
  generalize V3.alloc (.cells #[Value.int .i64 0, .int .i64 2] 24) = U3 at *
  refine (final_is exL (some ⟨g, 0, none⟩) 3 3 _ _ _ _ _ _ (ords_of_blk bg2_5 rfl bg2_5.lt) (by decide) rfl _ ex5).mono ?_
  rintro e V4 ⟨rfl, h4⟩
  have bg2_6 := bg2_5.below h4 bg2_5.lt; clear bg2_5
  have ba_6 := ba_5.below h4 ba_5.lt; clear ba_5
  have bb_6 := bb_5.below h4 bb_5.lt; clear bb_5
  have bc_6 := bc_5.below h4 bc_5.lt; clear bc_5
  have by0_6 := by0.below h4 by0.lt; clear by0
  have p0_6 := p0_5.keep h4; clear p0_5
  have p1_6 := p1_5.keep h4; clear p1_5
  have k_6 := k_5.trans h4; clear k_5
  have ba_6x : V4.cell? ⟨W1.heap.size, 0, none⟩ = some (.int .i64 0) := cell_of_blk ba_6 0 rfl
  have ba_6y : V4.cell? ⟨W1.heap.size, 1, none⟩ = some (.int .i64 1) := cell_of_blk ba_6 1 rfl
  have ba_6z := ba_6.lt
  have bb_6x : V4.cell? ⟨W1.heap.size + 1, 0, none⟩ = some (.int .i64 0) := cell_of_blk bb_6 0 rfl
  have bb_6y : V4.cell? ⟨W1.heap.size + 1, 1, none⟩ = some (.int .i64 2) := cell_of_blk bb_6 1 rfl
  have bb_6z := bb_6.lt
  have bc_6x : V4.cell? ⟨W1.heap.size + 1 + 1, 0, none⟩ = some (.int .i64 1) := cell_of_blk bc_6 0 rfl
  have bc_6y : V4.cell? ⟨W1.heap.size + 1 + 1, 1, none⟩ = some (.int .i64 1) := cell_of_blk bc_6 1 rfl
  have bc_6z := bc_6.lt
  have by0_6x : V4.cell? ⟨V3.heap.size, 0, none⟩ = some (.int .i64 0) := cell_of_blk by0_6 0 rfl
  have by0_6y : V4.cell? ⟨V3.heap.size, 1, none⟩ = some (.int .i64 2) := cell_of_blk by0_6 1 rfl
  have by0_6z := by0_6.lt
  go_wp2_with fail
  clear ba_6x ba_6y ba_6z
  clear bb_6x bb_6y bb_6z
  clear bc_6x bc_6y bc_6z
  clear by0_6x by0_6y by0_6z
  have hz := ((Keeps.refl V4).alloc (.cells #[Value.int .i64 0, .int .i64 2] 24)).alloc (.cells #[Value.int .i64 0, .int .i64 1, .int .i64 0, .int .i64 1, .int .i64 0, .int .i64 0] 39)
  have bz0 := (Blk.new V4 24 #[Value.int .i64 0, .int .i64 2]).alloc (.cells #[Value.int .i64 0, .int .i64 1, .int .i64 0, .int .i64 1, .int .i64 0, .int .i64 0] 39)
  have bl0 : Blk ((V4.alloc (.cells #[Value.int .i64 0, .int .i64 2] 24)).alloc (.cells #[Value.int .i64 0, .int .i64 1, .int .i64 0, .int .i64 1, .int .i64 0, .int .i64 0] 39)) (V4.heap.size + 1) 39 (ordCells badL).toArray := by
    have h := Blk.new (V4.alloc (.cells #[Value.int .i64 0, .int .i64 2] 24)) 39 (ordCells badL).toArray
    rw [World.size_alloc] at h; exact h
  have bg2_7 := bg2_6.below hz bg2_6.lt; clear bg2_6
  have ba_7 := ba_6.below hz ba_6.lt; clear ba_6
  have bb_7 := bb_6.below hz bb_6.lt; clear bb_6
  have bc_7 := bc_6.below hz bc_6.lt; clear bc_6
  have by0_7 := by0_6.below hz by0_6.lt; clear by0_6
  have p0_7 := p0_6.keep hz; clear p0_6
  have p1_7 := p1_6.keep hz; clear p1_6
  have k_7 := k_6.trans hz; clear k_6
  generalize (V4.alloc (.cells #[Value.int .i64 0, .int .i64 2] 24)).alloc (.cells #[Value.int .i64 0, .int .i64 1, .int .i64 0, .int .i64 1, .int .i64 0, .int .i64 0] 39) = U4 at *
  refine (follow_is badL (some ⟨V4.heap.size + 1, 0, none⟩) 1 1 _ _ _ _ (ords_of_blk bl0 rfl bl0.lt) (by decide) rfl _ ex6).mono ?_
  rintro e V5 ⟨A5, c5, rfl, hc5, p5, h5⟩
  have bg2_8 := bg2_7.below h5 bg2_7.lt; clear bg2_7
  have ba_8 := ba_7.below h5 ba_7.lt; clear ba_7
  have bb_8 := bb_7.below h5 bb_7.lt; clear bb_7
  have bc_8 := bc_7.below h5 bc_7.lt; clear bc_7
  have by0_8 := by0_7.below h5 by0_7.lt; clear by0_7
  have bz0_8 := bz0.below h5 bz0.lt; clear bz0
  have bl0_8 := bl0.below h5 bl0.lt; clear bl0
  have p0_8 := p0_7.keep h5; clear p0_7
  have p1_8 := p1_7.keep h5; clear p1_7
  have k_8 := k_7.trans h5; clear k_7
  have ba_8x : V5.cell? ⟨W1.heap.size, 0, none⟩ = some (.int .i64 0) := cell_of_blk ba_8 0 rfl
  have ba_8y : V5.cell? ⟨W1.heap.size, 1, none⟩ = some (.int .i64 1) := cell_of_blk ba_8 1 rfl
  have ba_8z := ba_8.lt
  have bb_8x : V5.cell? ⟨W1.heap.size + 1, 0, none⟩ = some (.int .i64 0) := cell_of_blk bb_8 0 rfl
  have bb_8y : V5.cell? ⟨W1.heap.size + 1, 1, none⟩ = some (.int .i64 2) := cell_of_blk bb_8 1 rfl
  have bb_8z := bb_8.lt
  have bc_8x : V5.cell? ⟨W1.heap.size + 1 + 1, 0, none⟩ = some (.int .i64 1) := cell_of_blk bc_8 0 rfl
  have bc_8y : V5.cell? ⟨W1.heap.size + 1 + 1, 1, none⟩ = some (.int .i64 1) := cell_of_blk bc_8 1 rfl
  have bc_8z := bc_8.lt
  have by0_8x : V5.cell? ⟨V3.heap.size, 0, none⟩ = some (.int .i64 0) := cell_of_blk by0_8 0 rfl
  have by0_8y : V5.cell? ⟨V3.heap.size, 1, none⟩ = some (.int .i64 2) := cell_of_blk by0_8 1 rfl
  have by0_8z := by0_8.lt
  have bz0_8x : V5.cell? ⟨V4.heap.size, 0, none⟩ = some (.int .i64 0) := cell_of_blk bz0_8 0 rfl
  have bz0_8y : V5.cell? ⟨V4.heap.size, 1, none⟩ = some (.int .i64 2) := cell_of_blk bz0_8 1 rfl
  have bz0_8z := bz0_8.lt
  have eqP := run_eq_pt
  go_wp2_with fail
  clear ba_8x ba_8y ba_8z
  clear bb_8x bb_8y bb_8z
  clear bc_8x bc_8y bc_8z
  clear by0_8x by0_8y by0_8z
  clear bz0_8x bz0_8y bz0_8z
  have hs1 := (Keeps.refl V5).alloc (.cells #[Value.int .i64 0, .int .i64 1] 24)
  have bs1 := Blk.new V5 24 #[Value.int .i64 0, .int .i64 1]
  have bg2_9 := bg2_8.below hs1 bg2_8.lt; clear bg2_8
  have ba_9 := ba_8.below hs1 ba_8.lt; clear ba_8
  have bb_9 := bb_8.below hs1 bb_8.lt; clear bb_8
  have bc_9 := bc_8.below hs1 bc_8.lt; clear bc_8
  have by0_9 := by0_8.below hs1 by0_8.lt; clear by0_8
  have bz0_9 := bz0_8.below hs1 bz0_8.lt; clear bz0_8
  have bl0_9 := bl0_8.below hs1 bl0_8.lt; clear bl0_8
  have p0_9 := p0_8.keep hs1; clear p0_8
  have p1_9 := p1_8.keep hs1; clear p1_8
  have k_9 := k_8.trans hs1; clear k_8
  refine (same_is [(0, 1)] [(0, 1)] _ (some ⟨V5.heap.size, 0, none⟩) _ _ _ _ _ p0_9 (pts_of_blk bs1 rfl bs1.lt) (by decide) (by decide) rfl rfl true (by decide)).mono ?_
  rintro e V6 ⟨rfl, hq1⟩
  have bg2_10 := bg2_9.below hq1 bg2_9.lt; clear bg2_9
  have ba_10 := ba_9.below hq1 ba_9.lt; clear ba_9
  have bb_10 := bb_9.below hq1 bb_9.lt; clear bb_9
  have bc_10 := bc_9.below hq1 bc_9.lt; clear bc_9
  have by0_10 := by0_9.below hq1 by0_9.lt; clear by0_9
  have bz0_10 := bz0_9.below hq1 bz0_9.lt; clear bz0_9
  have bl0_10 := bl0_9.below hq1 bl0_9.lt; clear bl0_9
  have p0_10 := p0_9.keep hq1; clear p0_9
  have p1_10 := p1_9.keep hq1; clear p1_9
  have k_10 := k_9.trans hq1; clear k_9
  have ba_10x : V6.cell? ⟨W1.heap.size, 0, none⟩ = some (.int .i64 0) := cell_of_blk ba_10 0 rfl
  have ba_10y : V6.cell? ⟨W1.heap.size, 1, none⟩ = some (.int .i64 1) := cell_of_blk ba_10 1 rfl
  have ba_10z := ba_10.lt
  have bb_10x : V6.cell? ⟨W1.heap.size + 1, 0, none⟩ = some (.int .i64 0) := cell_of_blk bb_10 0 rfl
  have bb_10y : V6.cell? ⟨W1.heap.size + 1, 1, none⟩ = some (.int .i64 2) := cell_of_blk bb_10 1 rfl
  have bb_10z := bb_10.lt
  have bc_10x : V6.cell? ⟨W1.heap.size + 1 + 1, 0, none⟩ = some (.int .i64 1) := cell_of_blk bc_10 0 rfl
  have bc_10y : V6.cell? ⟨W1.heap.size + 1 + 1, 1, none⟩ = some (.int .i64 1) := cell_of_blk bc_10 1 rfl
  have bc_10z := bc_10.lt
  have by0_10x : V6.cell? ⟨V3.heap.size, 0, none⟩ = some (.int .i64 0) := cell_of_blk by0_10 0 rfl
  have by0_10y : V6.cell? ⟨V3.heap.size, 1, none⟩ = some (.int .i64 2) := cell_of_blk by0_10 1 rfl
  have by0_10z := by0_10.lt
  have bz0_10x : V6.cell? ⟨V4.heap.size, 0, none⟩ = some (.int .i64 0) := cell_of_blk bz0_10 0 rfl
  have bz0_10y : V6.cell? ⟨V4.heap.size, 1, none⟩ = some (.int .i64 2) := cell_of_blk bz0_10 1 rfl
  have bz0_10z := bz0_10.lt
  go_wp2_with fail
  clear ba_10x ba_10y ba_10z
  clear bb_10x bb_10y bb_10z
  clear bc_10x bc_10y bc_10z
  clear by0_10x by0_10y by0_10z
  clear bz0_10x bz0_10y bz0_10z
  have hs2 := (Keeps.refl V6).alloc (.cells #[Value.int .i64 0, .int .i64 1, .int .i64 0, .int .i64 2, .int .i64 1, .int .i64 1] 24)
  have bs2 := Blk.new V6 24 #[Value.int .i64 0, .int .i64 1, .int .i64 0, .int .i64 2, .int .i64 1, .int .i64 1]
  have bg2_11 := bg2_10.below hs2 bg2_10.lt; clear bg2_10
  have ba_11 := ba_10.below hs2 ba_10.lt; clear ba_10
  have bb_11 := bb_10.below hs2 bb_10.lt; clear bb_10
  have bc_11 := bc_10.below hs2 bc_10.lt; clear bc_10
  have by0_11 := by0_10.below hs2 by0_10.lt; clear by0_10
  have bz0_11 := bz0_10.below hs2 bz0_10.lt; clear bz0_10
  have bl0_11 := bl0_10.below hs2 bl0_10.lt; clear bl0_10
  have p0_11 := p0_10.keep hs2; clear p0_10
  have p1_11 := p1_10.keep hs2; clear p1_10
  have k_11 := k_10.trans hs2; clear k_10
  refine (same_is [(0, 1), (0, 2), (1, 1)] [(0, 1), (0, 2), (1, 1)] _ (some ⟨V6.heap.size, 0, none⟩) _ _ _ _ _ p1_11 (pts_of_blk bs2 rfl bs2.lt) (by decide) (by decide) rfl rfl true (by decide)).mono ?_
  rintro e V7 ⟨rfl, hq2⟩
  have bg2_12 := bg2_11.below hq2 bg2_11.lt; clear bg2_11
  have ba_12 := ba_11.below hq2 ba_11.lt; clear ba_11
  have bb_12 := bb_11.below hq2 bb_11.lt; clear bb_11
  have bc_12 := bc_11.below hq2 bc_11.lt; clear bc_11
  have by0_12 := by0_11.below hq2 by0_11.lt; clear by0_11
  have bz0_12 := bz0_11.below hq2 bz0_11.lt; clear bz0_11
  have bl0_12 := bl0_11.below hq2 bl0_11.lt; clear bl0_11
  have p0_12 := p0_11.keep hq2; clear p0_11
  have p1_12 := p1_11.keep hq2; clear p1_11
  have k_12 := k_11.trans hq2; clear k_11
  have ba_12x : V7.cell? ⟨W1.heap.size, 0, none⟩ = some (.int .i64 0) := cell_of_blk ba_12 0 rfl
  have ba_12y : V7.cell? ⟨W1.heap.size, 1, none⟩ = some (.int .i64 1) := cell_of_blk ba_12 1 rfl
  have ba_12z := ba_12.lt
  have bb_12x : V7.cell? ⟨W1.heap.size + 1, 0, none⟩ = some (.int .i64 0) := cell_of_blk bb_12 0 rfl
  have bb_12y : V7.cell? ⟨W1.heap.size + 1, 1, none⟩ = some (.int .i64 2) := cell_of_blk bb_12 1 rfl
  have bb_12z := bb_12.lt
  have bc_12x : V7.cell? ⟨W1.heap.size + 1 + 1, 0, none⟩ = some (.int .i64 1) := cell_of_blk bc_12 0 rfl
  have bc_12y : V7.cell? ⟨W1.heap.size + 1 + 1, 1, none⟩ = some (.int .i64 1) := cell_of_blk bc_12 1 rfl
  have bc_12z := bc_12.lt
  have by0_12x : V7.cell? ⟨V3.heap.size, 0, none⟩ = some (.int .i64 0) := cell_of_blk by0_12 0 rfl
  have by0_12y : V7.cell? ⟨V3.heap.size, 1, none⟩ = some (.int .i64 2) := cell_of_blk by0_12 1 rfl
  have by0_12z := by0_12.lt
  have bz0_12x : V7.cell? ⟨V4.heap.size, 0, none⟩ = some (.int .i64 0) := cell_of_blk bz0_12 0 rfl
  have bz0_12y : V7.cell? ⟨V4.heap.size, 1, none⟩ = some (.int .i64 2) := cell_of_blk bz0_12 1 rfl
  have bz0_12z := bz0_12.lt
  go_wp2_with fail
  refine (valid_is exL (some ⟨g, 0, none⟩) 3 3 _ (ords_of_blk bg2_12 rfl bg2_12.lt) (by decide) rfl _ ex7).mono ?_
  rintro e V8 ⟨rfl, h8⟩
  clear ba_12x ba_12y ba_12z
  clear bb_12x bb_12y bb_12z
  clear bc_12x bc_12y bc_12z
  clear by0_12x by0_12y by0_12z
  clear bz0_12x bz0_12y bz0_12z
  have bg2_13 := bg2_12.below h8 bg2_12.lt; clear bg2_12
  have ba_13 := ba_12.below h8 ba_12.lt; clear ba_12
  have bb_13 := bb_12.below h8 bb_12.lt; clear bb_12
  have bc_13 := bc_12.below h8 bc_12.lt; clear bc_12
  have by0_13 := by0_12.below h8 by0_12.lt; clear by0_12
  have bz0_13 := bz0_12.below h8 bz0_12.lt; clear bz0_12
  have bl0_13 := bl0_12.below h8 bl0_12.lt; clear bl0_12
  have p0_13 := p0_12.keep h8; clear p0_12
  have p1_13 := p1_12.keep h8; clear p1_12
  have k_13 := k_12.trans h8; clear k_12
  go_wp2_with fail
  refine (valid_is badL (some ⟨V4.heap.size + 1, 0, none⟩) 1 1 _ (ords_of_blk bl0_13 rfl bl0_13.lt) (by decide) rfl _ ex8).mono ?_
  rintro e V9 ⟨rfl, h9⟩
  have bg2_14 := bg2_13.below h9 bg2_13.lt; clear bg2_13
  have ba_14 := ba_13.below h9 ba_13.lt; clear ba_13
  have bb_14 := bb_13.below h9 bb_13.lt; clear bb_13
  have bc_14 := bc_13.below h9 bc_13.lt; clear bc_13
  have by0_14 := by0_13.below h9 by0_13.lt; clear by0_13
  have bz0_14 := bz0_13.below h9 bz0_13.lt; clear bz0_13
  have bl0_14 := bl0_13.below h9 bl0_13.lt; clear bl0_13
  have p0_14 := p0_13.keep h9; clear p0_13
  have p1_14 := p1_13.keep h9; clear p1_13
  have k_14 := k_13.trans h9; clear k_13
  go_wp2
  go_ret
  exact ⟨rfl, k_14⟩
end Go.Proofs.Ytajobinkabdmkaa
