/- What forward.Follow returns: its chain of points, by a loop over an iterator that may not end. Conditions: at most 10^12 orders. -/
import Derived.Test.YtajobinkabdmkaaF
import Derived.WalkMore
import Derived.Maps.OwnIn
import Derived.RangeFuncNested
import Derived.RangeFuncCalls
import Derived.RangeFuncLeaves
import Derived.Shelf.Abstract
import Derived.OwnWalkIn
import Derived.TacticsInMore
import Derived.LoopNIn
import Derived.LoopIn
import Derived.Test.YtajobinkabdmkaaA
import Derived.Test.YtajobinkabdmkaaG
import Derived.Test.YtajobinkabdmkaaM
import Derived.Test.YtajobinkabdmkaaRows
import Derived.WalkKit
import Derived.WalkSpells
import Derived.WalkLawsBesides
import Derived.Laws.EntriesVeiled
import Derived.ProofKit
import Derived.OpenShut
import Derived.Lib.Hide
import Derived.BigQuiet
import Derived.Deep.QuietTactic
import Derived.Below
import Derived.Laws.OwnMore
import Derived.Deep.AppendLies
import Derived.Deep.Draws
import Derived.Laws.Rows
import Derived.Maps.AppendAt
import Derived.RegionTactic
import Derived.OwnWalk
import Derived.Deep.RegionHeld3
namespace Go.Proofs.Ytajobinkabdmkaa
open Go.Shelf Go.ChangeShapes Go.WideShapes Go.ChangeAt Go.RowKit
set_option linter.unusedSimpArgs false
set_option linter.unusedVariables false
attribute [local go_sem] Oper.semAt_some
def ptK (p : Pt) : Value := .agg #[.int .i64 p.1, .int .i64 p.2]
def ptEq (p q : Pt) : Bool := p.1 == q.1 && p.2 == q.2
theorem ptKeys : KeyLaws Try.prog 24 ptK ptEq where
  equal := fun x y W => run_eq_pt _ _ _ _ W
  check := fun e x W => by cases e <;> kernel_rfl
  deep := ⟨_, Try.underlying24, fun x y => rfl⟩
theorem lookF_marks (x : Pt) : ∀ (pre : List Pt) (i : Nat), (((lookF ptEq x (pre.map fun p => (p, Value.bool true)) i).map (·.2)).getD (.bool false)) = .bool (pre.contains x)
  | [], i => rfl
  | p :: pre, i => by
    have ih := lookF_marks x pre (i + 1)
    simp only [List.map_cons, lookF]
    by_cases h : ptEq x p = true
    · have : x = p := by simp [ptEq] at h; exact Prod.ext h.1 h.2
      subst this
      simp [h]
    · have hne : x ≠ p := fun e => by subst e; simp [ptEq] at h
      rw [if_neg (by simpa using h), ih]
      congr 1
      simp [hne]
theorem lookF_none {x : Pt} : ∀ {pre : List Pt} {i : Nat}, pre.contains x = false → lookF ptEq x (pre.map fun p => (p, Value.bool true)) i = none
  | [], i, _ => rfl
  | p :: pre, i, h => by
    simp at h
    have hne : ¬ ptEq x p = true := fun e => by simp [ptEq] at e; exact h.1 (Prod.ext e.1 e.2)
    simp only [List.map_cons, lookF]
    rw [if_neg hne]
    exact lookF_none (by simpa using h.2)

/-- Between two rounds of Follow's loop: the points so far; the marks; no error. -/
def FI (V : World) (n₀ B8 : Nat) (pre : List Pt) (W : World) : Prop :=
  ∃ v, Blk W B8 26 #[v] ∧ W.ownsRow V.heap.size 24 2 v pre.length (ptCells pre) ∧ MapIs ptK W (B8 + 1) (pre.map fun p => (p, Value.bool true)) ∧ Blk W (B8 + 1 + 1) 42 #[.map (some (B8 + 1))] ∧
    Blk W (B8 + 1 + 1 + 1) 27 #[.int .i64 0] ∧ Below n₀ V W ∧ V.heap.size ≤ W.heap.size ∧ pre.Nodup ∧ pre.length ≤ 5
/-- A round of Follow's loop has left: the error. -/
def FX (V : World) (n₀ B8 : Nat) (pre : List Pt) (W : World) : Prop :=
  Below n₀ V W ∧ ∃ init x e, pre = init ++ [x] ∧ init.Nodup ∧ init.length ≤ 5 ∧ Blk W (B8 + 1 + 1 + 1) 27 #[.int .i64 e] ∧ ((init.contains x = true ∧ e = 70) ∨ (init.contains x = false ∧ init.length = 5 ∧ e = 2))
theorem rowOf_blk {W : World} {B8 g : Nat} {t : TypeId} {v : Value} (h : Blk W B8 t #[v]) (hr : RowOf B8 W g) : ∃ n c, v = .slice (some ⟨g, 0, none⟩) n c := by
  obtain ⟨n, c, hc⟩ := hr
  have := (cell_of_blk h 0 (v := v) rfl).symm.trans hc
  exact ⟨n, c, by injection this⟩
theorem FI.turn {V : World} {n₀ B8 : Nat} {pre : List Pt} {A B : World} (hB : B8 + 3 < V.heap.size) (hn : n₀ ≤ V.heap.size) (h : FI V n₀ B8 pre A) (t : Turn B8 V.heap.size A B) : FI V n₀ B8 pre B := by
  obtain ⟨v, h8, ho, ⟨es, cl, hm, he⟩, h9, h10, hb, hz, hnd, hl⟩ := h
  have keep : ∀ k, k < V.heap.size → B.heap[k]? = A.heap[k]? := fun k hk => t.same k (by omega) (.inl hk)
  refine ⟨v, (keep B8 (by omega)).trans h8, ⟨ho.1, ?_⟩, ⟨es, cl, (keep _ (by omega)).trans hm, he⟩, (keep _ (by omega)).trans h9, (keep _ (by omega)).trans h10, ?_, Nat.le_trans hz t.size, hnd, hl⟩
  · rcases ho.2 with hnil | ⟨g, cap, cur, rfl, hg, hh, rest⟩
    · exact .inl hnil
    · refine .inr ⟨g, cap, cur, rfl, hg, ?_, rest⟩
      exact (t.same g (Array.getElem?_eq_some_iff.1 hh).1 (.inr ⟨_, _, cell_of_blk h8 0 rfl⟩)).trans hh
  · exact ⟨t.os.trans hb.os, t.tape.trans hb.tape, t.output.trans hb.output, Nat.le_trans hb.size t.size, fun k hk => (keep k (by omega)).trans (hb.block k hk)⟩
theorem FI.ok {V : World} {n₀ B8 : Nat} : RndOk B8 6 24 (FI V n₀ B8) := by
  rintro pre W ⟨v, h8, ho, _, _, _, _, _, _, hl⟩
  refine ⟨by omega, fun g hg => ?_⟩
  obtain ⟨n, c, rfl⟩ := rowOf_blk h8 hg
  rcases ho.2 with ⟨h, _⟩ | ⟨g', cap, cur, h, _, hh, _⟩
  · cases h
  · cases h; exact ⟨_, _, hh⟩
theorem FX.putObj {V : World} {n₀ B8 : Nat} {pre : List Pt} {A : World} {l : Nat} {o : Obj} (hB : B8 + 3 < V.heap.size) (hn : n₀ ≤ V.heap.size) (h : FX V n₀ B8 pre A) (hl : V.heap.size ≤ l) : FX V n₀ B8 pre (A.putObj l o) := by
  obtain ⟨hb, init, x, e, h1, h2, h3, h4, h5⟩ := h
  exact ⟨hb.trans (below_putObj A o (by omega)), init, x, e, h1, h2, h3, (World.putObj_heap_other (by omega)).trans h4, h5⟩
theorem own_slice {w : World} {base : Nat} {e : TypeId} {size n : Nat} {v : Value} {xs : List Value} (h : w.ownsRow base e size v n xs) : ∃ a c, v = .slice a n c := by
  rcases h.2 with ⟨rfl, rfl⟩ | ⟨g, cap, cur, rfl, _⟩
  · exact ⟨none, 0, rfl⟩
  · exact ⟨_, _, rfl⟩
theorem own_lt {w : World} {base : Nat} {e : TypeId} {size n g : Nat} {v : Value} {xs : List Value} (h : w.ownsRow base e size v n xs) (hg : v.ownBlock = some g) : base ≤ g ∧ g < w.heap.size := by
  rcases h.2 with ⟨rfl, rfl⟩ | ⟨g', cap, cur, rfl, hb, hh, _⟩
  · simp [Value.ownBlock] at hg
  · simp [Value.ownBlock] at hg; subst hg; exact ⟨hb, (Array.getElem?_eq_some_iff.1 hh).1⟩
theorem own_ne {w : World} {base : Nat} {e : TypeId} {size n k : Nat} {v : Value} {xs : List Value} (h : w.ownsRow base e size v n xs) (hk : k < base) : some k ≠ v.ownBlock := by
  intro e
  have := own_lt h e.symm
  omega
theorem some_ne {a b : Nat} (h : a ≠ b) : some a ≠ some b := fun e => h (Option.some.inj e)
theorem own_cells {w : World} {base : Nat} {e : TypeId} {size n : Nat} {v : Value} {xs : List Value} (h : w.ownsRow base e size v n xs) : ∀ (j : Nat) (o : Obj), v.ownBlock = some j → w.heap[j]? = some o → o.isCells = true := by
  intro j o hj ho
  rcases h.2 with ⟨rfl, rfl⟩ | ⟨g', cap, cur, rfl, hb, hh, _⟩
  · simp [Value.ownBlock] at hj
  · simp [Value.ownBlock] at hj; subst hj; rw [hh] at ho; cases ho; rfl
theorem row_of_own {w W : World} {base B8 : Nat} {t e : TypeId} {size n g : Nat} {v : Value} {xs : List Value} (h8 : Blk W B8 t #[v]) (h : w.ownsRow base e size v n xs) (hg : v.ownBlock = some g) : RowOf B8 W g := by
  rcases h.2 with ⟨rfl, rfl⟩ | ⟨g', cap, cur, rfl, hb, hh, _⟩
  · simp [Value.ownBlock] at hg
  · simp [Value.ownBlock] at hg; subst hg; exact ⟨_, _, cell_of_blk h8 0 rfl⟩
theorem MapIs.same {κ : Type} {kv : κ → Value} {W W' : World} {r : Nat} {l : List (κ × Value)} (h : MapIs kv W r l) (hs : W'.heap[r]? = W.heap[r]?) : MapIs kv W' r l := by
  obtain ⟨es, cl, h1, h2⟩ := h
  exact ⟨es, cl, hs.trans h1, h2⟩
theorem MapIs.lt {κ : Type} {kv : κ → Value} {W : World} {r : Nat} {l : List (κ × Value)} (h : MapIs kv W r l) : r < W.heap.size := by
  obtain ⟨es, cl, h1, h2⟩ := h
  exact (Array.getElem?_eq_some_iff.1 h1).1
theorem walk_chain {nx : Pt → Option Pt} {p : Pt} : ∀ (m : Nat) (ch : List Pt), ch.length = m + 1 → m + 1 ≤ 5 → Chn nx p ch → ch.Nodup → ∃ q, itF nx p m = some q ∧ ch[m]? = some q ∧ walkF nx 5 [p] p = walkF nx (5 - m) ch q
  | 0, ch, hl, _, hc, _ => by
    match ch, hl with
    | [q], _ =>
      have := hc 0 (by simp)
      simp [itF] at this
      subst this
      exact ⟨p, rfl, rfl, rfl⟩
  | m + 1, ch, hl, h5, hc, hn => by
    obtain ⟨init, x, rfl⟩ : ∃ init x, ch = init ++ [x] := ⟨ch.dropLast, ch.getLast (by intro e; simp [e] at hl), (List.dropLast_concat_getLast _).symm⟩
    have hli : init.length = m + 1 := by simpa using hl
    have hci : Chn nx p init := fun k hk => by rw [hc k (by simp; omega), List.getElem?_append_left hk]
    obtain ⟨q, hq, hlast, hw⟩ := walk_chain m init hli (by omega) hci (List.nodup_append.1 hn).1
    have hx : itF nx p (m + 1) = some x := by rw [hc (m + 1) (by simp; omega), ← hli]; simp
    have hnx : nx q = some x := by simpa [itF, hq] using hx
    have hno : init.contains x = false := by
      have := (List.nodup_append.1 hn).2.2
      simp
      intro hm
      exact this x hm x (by simp) rfl
    refine ⟨x, hx, by rw [← hli]; simp, ?_⟩
    rw [hw, show 5 - m = (5 - (m + 1)) + 1 by omega, walk_go hnx hno (by omega)]
theorem chain_done {nx : Pt → Option Pt} {p : Pt} {xs : List Pt} (hc : Chn nx p xs) (he : itF nx p xs.length = none) (hn : xs.Nodup) (h5 : xs.length ≤ 5) : walkF nx 5 [p] p = (xs, 0) := by
  cases hm : xs.length with
  | zero => rw [hm] at he; simp [itF] at he
  | succ m =>
    obtain ⟨q, hq, _, hw⟩ := walk_chain m xs hm (by omega) hc hn
    have hnx : nx q = none := by rw [hm] at he; simpa [itF, hq] using he
    rw [hw, show 5 - m = (4 - m) + 1 by omega, walk_end hnx]
theorem chain_left {nx : Pt → Option Pt} {p x : Pt} {init : List Pt} {e : Int} (hc : Chn nx p (init ++ [x])) (hn : init.Nodup) (h5 : init.length ≤ 5) (he : (init.contains x = true ∧ e = 70) ∨ (init.contains x = false ∧ init.length = 5 ∧ e = 2)) :
    walkF nx 5 [p] p = ([], e) := by
  cases hm : init.length with
  | zero =>
    have : init = [] := List.eq_nil_of_length_eq_zero hm
    subst this
    rcases he with ⟨h, _⟩ | ⟨_, h, _⟩ <;> simp at h
  | succ m =>
    have hci : Chn nx p init := fun k hk => by rw [hc k (by simp; omega), List.getElem?_append_left hk]
    obtain ⟨q, hq, _, hw⟩ := walk_chain m init hm (by omega) hci hn
    have hx : itF nx p (m + 1) = some x := by rw [hc (m + 1) (by simp; omega), ← hm]; simp
    have hnx : nx q = some x := by simpa [itF, hq] using hx
    rw [hw, show 5 - m = (4 - m) + 1 by omega]
    rcases he with ⟨h, rfl⟩ | ⟨h, h', rfl⟩
    · exact walk_loop hnx h
    · exact walk_limit hnx h h'
set_option maxHeartbeats 1000000 in
theorem along_mk (A : Option Addr) (n c : Nat) (day px py : Int) (w : World) :
    Calls Try.prog 19 #[.slice A n c, .int .i64 day, .agg #[.int .i64 px, .int .i64 py]] w fun e w' =>
      e = .returned (.func (.func 23) #[] #[.pointer (some ⟨w.heap.size + 2, 0, none⟩), .pointer (some ⟨w.heap.size, 0, none⟩), .pointer (some ⟨w.heap.size + 1, 0, none⟩)]) ∧
      w' = ((w.alloc (.cells #[.slice A n c] 22)).alloc (.cells #[.int .i64 day] 3)).alloc (.cells #[.int .i64 px, .int .i64 py] 24) := by
  go_enter Try.func19, Try.ntmps19
  go_wp2
  go_ret
  exact ⟨rfl, rfl⟩

set_option maxRecDepth 100000 in
set_option maxHeartbeats 2000000 in
theorem follow_any (l : List Ordr) (A : Option Addr) (c : Nat) (day px py : Int) (w : World) (hl : Ords w w.heap.size A l) (hn : l.length ≤ 1000000000000) :
    Calls Try.prog 10 #[.slice A l.length c, .int .i64 day, .agg #[.int .i64 px, .int .i64 py]] w (FollowPost (followF l day (px, py)) w) := by
  obtain ⟨i0, hi0, hz0, hz1, hz2⟩ := info_parts info24
  cases hv : validF l
  · have E := Lib.hid (show followF l day (px, py) = ([], 1) by simp [followF, hv])
    go_enter Try.func10, Try.ntmps10
    go_wp2_with fail
    go_step3
    go_wp2_with fail
    refine (valid_any l A c _ (hl.below ((Keeps.refl w).alloc _) |>.more (by simp)) hn).mono ?_
    rintro e W1 ⟨rfl, hk1⟩
    rw [hv]
    go_wp2
    rw [Exit.noGoto_ret]
    go_ret2
    exact follow_nil E.out (((Keeps.refl w).alloc _).trans hk1)
  · have hmm := @run_makeMap Try.prog
    refine (callsIn_wide (n := 3)).1 ?_
    refine callsIn_of_wp_marks Try.func10 rfl trivial ?_ rfl
    refine wpIn_wide.2 ?_
    simp only [Try.ntmps10, List.size_toArray, List.length_cons, List.length_nil, Nat.reduceAdd, Nat.reduceSub, Array.replicate_succ, Array.replicate_zero, List.push_toArray, List.append_toArray, List.nil_append, List.cons_append]
    go_wp2_with fail
    go_step3
    go_wp2_with fail
    refine (valid_any l A c _ (hl.below ((Keeps.refl w).alloc _) |>.more (by simp)) hn).mono ?_
    rintro e W1 ⟨rfl, hk1⟩
    rw [hv]
    go_wp2_with fail
    go_step3
    have bP := (Blk.new w 24 #[.int .i64 px, .int .i64 py]).below hk1 (by simp)
    have hsz1 : w.heap.size < W1.heap.size := by have := hk1.size; simp at this; omega
    have hK1 : Keeps w W1 := ((Keeps.refl w).alloc _).trans hk1
    have b8 : Blk ((((W1.alloc (.cells #[.slice none 0 0] 26)).alloc (.map #[] 0)).alloc (.cells #[.map (some (W1.heap.size + 1))] 42)).alloc (.cells #[.int .i64 0] 27)) W1.heap.size 26 #[.slice none 0 0] := (((Blk.new W1 _ _).alloc _).alloc _).alloc _
    have bm : ((((W1.alloc (.cells #[.slice none 0 0] 26)).alloc (.map #[] 0)).alloc (.cells #[.map (some (W1.heap.size + 1))] 42)).alloc (.cells #[.int .i64 0] 27)).heap[W1.heap.size + 1]? = some (.map #[] 0) := by
      have h := World.alloc_heap_new (W1.alloc (.cells #[.slice none 0 0] 26)) (.map #[] 0)
      rw [World.size_alloc] at h
      refine (Below.heap_alloc _ _ _ (by simp)).trans ((Below.heap_alloc _ _ _ (by simp)).trans h)
    have b9 : Blk ((((W1.alloc (.cells #[.slice none 0 0] 26)).alloc (.map #[] 0)).alloc (.cells #[.map (some (W1.heap.size + 1))] 42)).alloc (.cells #[.int .i64 0] 27)) (W1.heap.size + 1 + 1) 42 #[.map (some (W1.heap.size + 1))] := by
      have h := Blk.new ((W1.alloc (.cells #[.slice none 0 0] 26)).alloc (.map #[] 0)) 42 #[.map (some (W1.heap.size + 1))]
      rw [World.size_alloc, World.size_alloc] at h
      exact h.alloc _
    have b10 : Blk ((((W1.alloc (.cells #[.slice none 0 0] 26)).alloc (.map #[] 0)).alloc (.cells #[.map (some (W1.heap.size + 1))] 42)).alloc (.cells #[.int .i64 0] 27)) (W1.heap.size + 1 + 1 + 1) 27 #[.int .i64 0] := by
      have h := Blk.new (((W1.alloc (.cells #[.slice none 0 0] 26)).alloc (.map #[] 0)).alloc (.cells #[.map (some (W1.heap.size + 1))] 42)) 27 #[.int .i64 0]
      rwa [World.size_alloc, World.size_alloc, World.size_alloc] at h
    have sz : ((((W1.alloc (.cells #[.slice none 0 0] 26)).alloc (.map #[] 0)).alloc (.cells #[.map (some (W1.heap.size + 1))] 42)).alloc (.cells #[.int .i64 0] 27)).heap.size = W1.heap.size + 4 := by simp
    have kV : Keeps W1 ((((W1.alloc (.cells #[.slice none 0 0] 26)).alloc (.map #[] 0)).alloc (.cells #[.map (some (W1.heap.size + 1))] 42)).alloc (.cells #[.int .i64 0] 27)) := ((((Keeps.refl _).alloc _).alloc _).alloc _).alloc _
    generalize (((W1.alloc (.cells #[.slice none 0 0] 26)).alloc (.map #[] 0)).alloc (.cells #[.map (some (W1.heap.size + 1))] 42)).alloc (.cells #[.int .i64 0] 27) = V0 at *
    have SZ := Lib.hid sz; clear sz
    have BM := Lib.hid bm; clear bm
    have p0 : V0.cell? ⟨w.heap.size, 0, none⟩ = some (.int .i64 px) := cell_of_blk (bP.below kV hsz1) 0 rfl
    have p1 : V0.cell? ⟨w.heap.size, 1, none⟩ = some (.int .i64 py) := cell_of_blk (bP.below kV hsz1) 1 rfl
    go_wp2_with fail
    refine (along_mk A l.length c day px py _).mono ?_
    rintro e V ⟨rfl, hV⟩
    go_wp2_with fail
    have vl : Blk V V0.heap.size 22 #[.slice A l.length c] := by rw [hV]; exact ((Blk.new V0 _ _).alloc _).alloc _
    have vd : Blk V (V0.heap.size + 1) 3 #[.int .i64 day] := by
      have h := Blk.new (V0.alloc (.cells #[.slice A l.length c] 22)) 3 #[.int .i64 day]
      rw [World.size_alloc] at h; rw [hV]; exact h.alloc _
    have vp : Blk V (V0.heap.size + 2) 24 #[.int .i64 px, .int .i64 py] := by
      have h := Blk.new ((V0.alloc (.cells #[.slice A l.length c] 22)).alloc (.cells #[.int .i64 day] 3)) 24 #[.int .i64 px, .int .i64 py]
      rw [World.size_alloc, World.size_alloc] at h; rw [hV]; exact h
    have vz : V.heap.size = V0.heap.size + 3 := by rw [hV]; simp
    have kV0 : Keeps V0 V := by rw [hV]; exact (((Keeps.refl _).alloc _).alloc _).alloc _
    rw [← hV]
    clear hV p0 p1
    have hszV : W1.heap.size + 3 < V.heap.size := by have := SZ.out; omega
    have hw1V : Keeps W1 V := kV.trans kV0
    have hKV : Keeps w V := hK1.trans hw1V
    have hlV : Ords V W1.heap.size A l := (hl.below hKV).more (by omega)
    have c8 : Blk V W1.heap.size 26 #[.slice none 0 0] := b8.below kV0 b8.lt
    have c9 : Blk V (W1.heap.size + 1 + 1) 42 #[.map (some (W1.heap.size + 1))] := b9.below kV0 b9.lt
    have c10 : Blk V (W1.heap.size + 1 + 1 + 1) 27 #[.int .i64 0] := b10.below kV0 b10.lt
    have cm : MapIs ptK V (W1.heap.size + 1) (([] : List Pt).map fun p => (p, Value.bool true)) := ⟨#[], 0, (kV0.block _ (by have := SZ.out; omega)).trans BM.out, rfl⟩
    have hI0 : FI V W1.heap.size W1.heap.size [] V := ⟨_, c8, World.ownsRow_nil _ _ _ _, cm, c9, c10, Below.refl _ _, Nat.le_refl _, List.nodup_nil, by simp⟩
    clear hmm b8 b9 b10 bP c8 c9 c10 cm
    have VZ := Lib.hid vz; clear vz
    refine (wpIn_wide (n := 3)).1 ?_
    refine range_seqB (F := Fence.wide) (n := 3) (b8 := W1.heap.size) (n₀ := W1.heap.size) (kp := fun k => k = V0.heap.size ∨ k = V0.heap.size + 1 ∨ V.heap.size + 2 ≤ k) (gf := 23)
      (lb := #[.pointer (some ⟨V0.heap.size + 2, 0, none⟩), .pointer (some ⟨V0.heap.size, 0, none⟩), .pointer (some ⟨V0.heap.size + 1, 0, none⟩)]) rfl (by omega) rfl trivial (enters_of Try.func23 (by kernel_rfl) rfl)
      (along_in 2 l A c day px py V W1.heap.size W1.heap.size (V0.heap.size + 2) V0.heap.size (V0.heap.size + 1) _ hlV hn vp vl vd (.inl rfl) (.inr (.inl rfl)) ⟨by have := SZ.out; omega, by have := SZ.out; omega⟩ (by omega) (by omega))
      (fun k hk => by have := VZ.out; rcases hk with h | h | h <;> omega) (fun k hk => .inr (.inr hk)) (by omega) (by omega) (fun _ => rfl) 0
      (FI V W1.heap.size W1.heap.size) (FX V W1.heap.size W1.heap.size) (fun pre A B h t => h.turn hszV (by omega) t) (fun pre A l o h hl => h.putObj hszV (by omega) hl) FI.ok hI0
      24 (fun p => #[.int .i64 p.1, .int .i64 p.2])
      (fun p B => { tmps := #[.slice A l.length c, .int .i64 day, .agg #[.int .i64 px, .int .i64 py], undef, undef, .pointer (some ⟨w.heap.size, 0, none⟩), .slice none 0 0, .int .i64 0, .pointer (some ⟨W1.heap.size, 0, none⟩), .pointer (some ⟨W1.heap.size + 1 + 1, 0, none⟩), .pointer (some ⟨W1.heap.size + 1 + 1 + 1, 0, none⟩), .pointer (some ⟨B, 0, none⟩), .slice A l.length c, .bool true, .bool false, .map (some (W1.heap.size + 1)), .slice A l.length c, .int .i64 day, .agg #[.int .i64 px, .int .i64 py], .func (.func 23) #[] #[.pointer (some ⟨V0.heap.size + 2, 0, none⟩), .pointer (some ⟨V0.heap.size, 0, none⟩), .pointer (some ⟨V0.heap.size + 1, 0, none⟩)], .agg #[.int .i64 p.1, .int .i64 p.2], undef, undef, undef, undef, undef, undef, undef, undef, undef, undef, undef, undef, undef, undef, undef, undef, undef, undef], defers := [] })
      ?assign ?body ?done ?stop
    case assign =>
      intro lo x W K hK
      gi_wp2
      exact hK
    case body =>
      rintro lo pre x B W ⟨v, h8, ho, hm, h9, h10, hb, hz, hnd, hl5⟩ hB hx
      have hxB : Blk W B 24 #[.int .i64 x.1, .int .i64 x.2] := hx
      have x0 : W.cell? ⟨B, 0, none⟩ = some (.int .i64 x.1) := cell_of_blk hxB 0 rfl
      have x1 : W.cell? ⟨B, 1, none⟩ = some (.int .i64 x.2) := cell_of_blk hxB 1 rfl
      have y8 : W.cell? ⟨W1.heap.size, 0, none⟩ = some v := cell_of_blk h8 0 rfl
      have y9 : W.cell? ⟨W1.heap.size + 1 + 1, 0, none⟩ = some (.map (some (W1.heap.size + 1))) := cell_of_blk h9 0 rfl
      have y10 : W.cell? ⟨W1.heap.size + 1 + 1 + 1, 0, none⟩ = some (.int .i64 0) := cell_of_blk h10 0 rfl
      have f10 := h10.frozen 0
      have hlk := run_lookup_is ptKeys Try.underlying42 false x W _ _ hm (.bool false) (by kernel_rfl)
      simp only [lookF_marks, Bool.false_eq_true, if_false, ptK] at hlk
      cases hc : pre.contains x with
      | true =>
        rw [hc] at hlk
        gi_wp2
        refine ⟨rfl, ?_, ?_⟩
        · exact (KeepsOthers.setCell _ _ _).from _
        · exact ⟨hb.setCell (p := ⟨W1.heap.size + 1 + 1 + 1, 0, none⟩) (by simp; omega) _, pre, x, 70, rfl, hnd, hl5, h10.set_ 0 _, .inl ⟨hc, rfl⟩⟩
      | false =>
        rw [hc] at hlk
        obtain ⟨sa, sc, rfl⟩ := own_slice ho
        by_cases h5 : pre.length = 5
        · have h5' : ((pre.length : Int) > 4) = true := by simp; omega
          have h5d : decide ((4 : Int) < (pre.length : Int)) = true := by simp; omega
          have H5 := Lib.hid h5; clear h5 h5'
          gi_wp2
          refine ⟨rfl, ?_, ?_⟩
          · exact (KeepsOthers.setCell _ _ _).from _
          · exact ⟨hb.setCell (p := ⟨W1.heap.size + 1 + 1 + 1, 0, none⟩) (by simp; omega) _, pre, x, 2, rfl, hnd, hl5, h10.set_ 0 _, .inr ⟨hc, H5.out, rfl⟩⟩
        · have h5d : decide ((4 : Int) < (pre.length : Int)) = false := by simp; omega
          have hl4 : pre.length ≤ 4 := by omega
          obtain ⟨W2, hup, hm2, hg2⟩ := run_update_is ptKeys Try.underlying42 x (.bool true) W _ _ hm (lookF_none hc)
          simp only [ptK] at hup
          have hBlt : B < W.heap.size := hxB.lt
          have hne1 : some B ≠ some (W1.heap.size + 1) := some_ne (by omega)
          have hxB2 := hxB.grown hg2 hne1
          have h82 := h8.grown hg2 (some_ne (by omega))
          have h92 := h9.grown hg2 (some_ne (by omega))
          have h102 := h10.grown hg2 (some_ne (by omega))
          have ho2 : W2.ownsRow V.heap.size 24 2 (.slice sa pre.length sc) pre.length (ptCells pre) := ho.kept hg2 (.inr (by
            intro e
            have := own_lt ho e
            omega))
          have u0 : W2.cell? ⟨B, 0, none⟩ = some (.int .i64 x.1) := cell_of_blk hxB2 0 rfl
          have u1 : W2.cell? ⟨B, 1, none⟩ = some (.int .i64 x.2) := cell_of_blk hxB2 1 rfl
          have u8 : W2.cell? ⟨W1.heap.size, 0, none⟩ = some (.slice sa pre.length sc) := cell_of_blk h82 0 rfl
          have hzz2 := hg2.size
          have on := ho2.alloc (.cells #[.int .i64 x.1, .int .i64 x.2] 24)
          have c1 := Lib.hid (World.news_of_block (cs := #[.int .i64 x.1, .int .i64 x.2]) (t := 24) (fr := (0, 0)) (heap_alloc_new W2 (.cells #[.int .i64 x.1, .int .i64 x.2] 24)))
          have c2 := Lib.hid (show ∀ u ∈ [Value.int .i64 x.1, .int .i64 x.2], u.oneCell' = true by simp [Value.oneCell'])
          have c3 : pre.length + 1 ≤ maxLen := by unfold maxLen; omega
          have c4 : (pre.length + 1) * 16 ≤ 140737488355328 := by omega
          have c5 : V.heap.size ≤ (W2.alloc (.cells #[.int .i64 x.1, .int .i64 x.2] 24)).heap.size := by simp; omega
          have C5 := Lib.hid c5; clear c5
          gi_wp2_with (gi_at_builtin; refine wpListIn_append_own_at _ rfl (.tmp 31) (.tmp 33) 26 rfl V.heap.size 24 i0 (.agg #[.int .i64 0, .int .i64 0]) 2 16 Try.underlying26 hi0 hz0 hz1 hz2 rfl (by decide) _ _ _ rfl on ⟨W2.heap.size, 0, none⟩ 1 1 [.int .i64 x.1, .int .i64 x.2] rfl rfl c1.out c2.out c3 c4 C5.out ?_; intro v' w5 hown5 hgrow _ hat; obtain ⟨g', cap', rfl, hg', hgl'⟩ := hown5.form (by omega); have h85 := (h82.alloc (.cells #[.int .i64 x.1, .int .i64 x.2] 24)).grown hgrow (own_ne on (by omega)); have w8 : w5.cell? ⟨W1.heap.size, 0, none⟩ = some (.slice sa pre.length sc) := cell_of_blk h85 0 rfl; have f8 := h85.frozen 0)
          have hz3 : W.heap.size ≤ W2.heap.size := hzz2
          have hz5 := hgrow.size
          rw [World.size_alloc] at hz5
          have hzW : W1.heap.size ≤ W.heap.size := by omega
          have bel2 : Below W1.heap.size W W2 := (Below.refl _ W).grown hg2 (by omega) (fun k e => by have := Option.some.inj e; omega)
          have bel3 : Below W1.heap.size W (W2.alloc (.cells #[.int .i64 x.1, .int .i64 x.2] 24)) := bel2.alloc (by omega) _
          have bel5 : Below W1.heap.size W w5 := bel3.grown hgrow (by simp; omega) (fun k e => by have := own_lt on e; omega)
          have bel6 : Below W1.heap.size W (w5.setCell ⟨W1.heap.size, 0, none⟩ (.slice (some ⟨g', 0, none⟩) (pre.length + 1) cap')) := bel5.setCell (p := ⟨W1.heap.size, 0, none⟩) (Nat.le_refl _) _
          have keep : ∀ k, k < W.heap.size → k ≠ W1.heap.size → k ≠ W1.heap.size + 1 → (∀ g, (Value.slice sa pre.length sc).ownBlock = some g → k ≠ g) →
              (w5.setCell ⟨W1.heap.size, 0, none⟩ (.slice (some ⟨g', 0, none⟩) (pre.length + 1) cap')).heap[k]? = W.heap[k]? := by
            intro k h1 h2 h3 h4
            refine (Below.heap_setCell w5 _ _ k h2).trans ((hgrow.block k (by simp; omega) (fun e => h4 k e.symm rfl)).trans ((Below.heap_alloc W2 _ k (by omega)).trans (hg2.block k h1 (some_ne h3))))
          have far : ∀ k, k < V.heap.size → (∀ g, (Value.slice sa pre.length sc).ownBlock = some g → k ≠ g) := fun k hk g hg => by have := own_lt on hg; omega
          refine ⟨?_, ⟨bel6, ?_⟩, ?_⟩
          · exact (((KeepsFrom.of_grownBy hg2 (fun j e => by have := Option.some.inj e; omega)).trans ((KeepsOthers.alloc _ _).from _)).trans ((KeepsOthers.of_grownBy hgrow (own_cells on)).from _)).trans ((KeepsOthers.setCell _ _ _).from _)
          · intro k hkp hkW hnr
            have hk4 : W1.heap.size + 4 ≤ k := by have := SZ.out; have := VZ.out; rcases hkp with h | h | h <;> omega
            have hkg : ∀ g, (Value.slice sa pre.length sc).ownBlock = some g → k ≠ g := fun g hg e => hnr (by rw [e]; exact row_of_own h8 ho hg)
            refine ⟨keep k hkW (by omega) (by omega) hkg, fun hr => ?_⟩
            obtain ⟨n', c', e'⟩ := rowOf_blk (h85.set_ 0 (.slice (some ⟨g', 0, none⟩) (pre.length + 1) cap')) hr
            have hgk : g' = k := by simp at e'; exact e'.1
            rcases hat with h | h
            · have h' : (Value.slice sa pre.length sc).ownBlock = some g' := h.symm
              exact hkg g' h' hgk.symm
            · have : g' = (W2.alloc (.cells #[.int .i64 x.1, .int .i64 x.2] 24)).heap.size := by simpa [Value.ownBlock] using h
              rw [World.size_alloc] at this
              omega
          · refine ⟨_, h85.set_ 0 _, ?_, ?_, ?_, ?_, hb.trans bel6, ?_, ?_, ?_⟩
            · rw [ptCells_append, List.length_append]
              exact ownsRow_setCell_below hown5 (by simp; omega) _
            · rw [List.map_append]
              refine hm2.same ?_
              refine (Below.heap_setCell w5 _ _ _ (by simp)).trans ((hgrow.block _ (by have := hm2.lt; simp; omega) (own_ne on (by omega))).trans (Below.heap_alloc W2 _ _ hm2.lt))
            · exact (keep _ h9.lt (by omega) (by omega) (far _ (by omega))).trans h9
            · exact (keep _ h10.lt (by omega) (by omega) (far _ (by omega))).trans h10
            · simp; omega
            · rw [List.nodup_append]
              refine ⟨hnd, by simp, ?_⟩
              intro a ha b hb' e
              simp at hb' hc
              subst hb'; subst e; exact hc ha
            · simp; omega
    case done =>
      rintro D xs W hD ⟨hch, hend⟩ ⟨v, h8, ho, hm, h9, h10, hb, hz, hnd, hl5⟩ hKD
      have E := Lib.hid (show followF l day (px, py) = (xs, 0) by unfold followF; rw [if_pos hv]; exact chain_done hch hend hnd hl5)
      have y8 : W.cell? ⟨W1.heap.size, 0, none⟩ = some v := cell_of_blk h8 0 rfl
      have y10 : W.cell? ⟨W1.heap.size + 1 + 1 + 1, 0, none⟩ = some (.int .i64 0) := cell_of_blk h10 0 rfl
      have hpos : 0 < xs.length := by
        rcases Nat.eq_zero_or_pos xs.length with h | h
        · rw [h] at hend; simp [itF] at hend
        · exact h
      obtain ⟨g, cap, rfl, hg1, hg2⟩ := ho.form hpos
      have hgD : g ≠ D := fun e => by
        have hc := own_cells ho D _ (by rw [← e]; rfl) hKD
        cases hc
      have ho' := ho.kept (grownBy_putObj' W D (.deferred none)) (.inr (by simpa [Value.ownBlock] using hgD))
      have hKp : Keeps w (W.putObj D (.deferred none)) := Below.trans hKV (Below.mono (hb.trans (below_putObj W (.deferred none) (by omega))) (by omega))
      go_wp2
      rw [Exit.noGoto_ret]
      refine ⟨by simp, .inl ⟨_, _, rfl, run_takeDeferred hKD, ?_⟩⟩
      exact ⟨_, by simp [results, Try.results10, go_sem], follow_own E.out ho' (Keeps.refl _) hKp⟩
    case stop =>
      rintro D pre W hD hch ⟨hb, init, x, e, rfl, hnd, hl5, h10, he⟩ hKD
      have E := Lib.hid (show followF l day (px, py) = ([], e) by unfold followF; rw [if_pos hv]; exact chain_left hch hnd hl5 he)
      have y10 : W.cell? ⟨W1.heap.size + 1 + 1 + 1, 0, none⟩ = some (.int .i64 e) := cell_of_blk h10 0 rfl
      have he0 : (e != 0) = true := by rcases he with ⟨_, rfl⟩ | ⟨_, _, rfl⟩ <;> rfl
      have hKp : Keeps w (W.putObj D (.deferred none)) := Below.trans hKV (Below.mono (hb.trans (below_putObj W (.deferred none) (by omega))) (by omega))
      gi_wp2
      go_wp2
      go_quiet (fail)
      go_wp2
      rw [Exit.noGoto_ret]
      refine ⟨by simp, .inl ⟨_, _, rfl, run_takeDeferred (by exact hKD), ?_⟩⟩
      exact ⟨_, by simp [results, Try.results10, go_sem], follow_nil E.out (by exact hKp.drewN _)⟩
end Go.Proofs.Ytajobinkabdmkaa
