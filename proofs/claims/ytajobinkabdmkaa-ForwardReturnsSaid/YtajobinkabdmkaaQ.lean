/- The walk of ForwardReturns. Conditions: none. -/
import Derived.Test.YtajobinkabdmkaaO
import Derived.Test.YtajobinkabdmkaaP
import Derived.Test.YtajobinkabdmkaaL
import Derived.Test.YtajobinkabdmkaaK
import Derived.Test.YtajobinkabdmkaaJ
import Derived.Test.YtajobinkabdmkaaI
import Derived.Maps.OwnIn
import Derived.RangeFuncNested
import Derived.RangeFuncCalls
import Derived.RangeFuncLeaves
import Derived.Shelf.Abstract
import Derived.OwnWalkIn
import Derived.TacticsInMore
import Derived.LoopNIn
import Derived.LoopIn
import Derived.Test.YtajobinkabdmkaaA
import Derived.Test.YtajobinkabdmkaaG
import Derived.Test.YtajobinkabdmkaaM
import Derived.Test.YtajobinkabdmkaaRows
import Derived.WalkKit
import Derived.WalkSpells
import Derived.WalkLawsBesides
import Derived.Laws.EntriesVeiled
import Derived.ProofKit
import Derived.OpenShut
import Derived.Lib.Hide
import Derived.BigQuiet
import Derived.Deep.QuietTactic
import Derived.Below
import Derived.Laws.OwnMore
import Derived.Deep.AppendLies
import Derived.Deep.Draws
import Derived.Laws.Rows
import Derived.Maps.AppendAt
import Derived.RegionTactic
import Derived.OwnWalk
import Derived.Deep.RegionHeld3
namespace Go.Proofs.Ytajobinkabdmkaa
open Go.Shelf Go.ChangeShapes Go.WideShapes Go.ChangeAt Go.RowKit
set_option linter.unusedSimpArgs false
set_option linter.unusedVariables false
section
variable {P : Program} (w : World)

theorem run_append_of_nil (base : Nat) (t ty e : TypeId) (i : TypeInfo) (size : Nat) (ht : P.underlying t = some (.slice e)) (hi : P.info? e = some i)
    (v : Value) (n : Nat) (xs : List Value) (hown : w.ownsRow base e size v n xs) (c : Nat) : (Builtin.append_ #[t, t] ty #[v, .slice none 0 c]).run P w = .ok v w := by
  rcases hown.2 with ⟨rfl, rfl⟩ | ⟨g, cap, cur, rfl, _, _, hnc, _⟩
  · simp [Builtin.append_, run_underlying ht, sizeOf, typeInfo, hi, Builtin.lenOf, Builtin.firstCells]
  · simp [Builtin.append_, run_underlying ht, sizeOf, typeInfo, hi, Builtin.lenOf, Builtin.firstCells, hnc, storeCells]

theorem run_append_any (base : Nat) (t ty e : TypeId) (i : TypeInfo) (z : Value) (size bytes : Nat) (ht : P.underlying t = some (.slice e)) (hi : P.info? e = some i) (hz : i.zero = some z)
    (hsize : i.size = size) (hby : i.bytes = bytes) (hzs : z.cells.size = size) (hsz : 0 < size)
    (v : Value) (n : Nat) (xs : List Value) (hown : w.ownsRow base e size v n xs)
    (B : Nat) (A : Option Addr) (m c : Nat) (news : List Value) (hr : Reads w B size A m news) (h1 : ∀ u ∈ news, u.oneCell' = true)
    (h63 : n + m ≤ maxLen) (hbytes : (n + m) * bytes ≤ 140737488355328) (hbase : base ≤ w.heap.size) :
    ∃ v' w', (Builtin.append_ #[t, t] ty #[v, .slice A m c]).run P w = .ok v' w' ∧ w'.ownsRow base e size v' (n + m) (xs ++ news) ∧ w.grownBy w' v.ownBlock ∧
      (v'.ownBlock = v.ownBlock ∨ v'.ownBlock = some w.heap.size) := by
  rcases A with _ | ad
  · have hm : m = 0 := by
      rcases Nat.eq_zero_or_pos m with h0 | h0
      · exact h0
      · obtain ⟨ad, h, _⟩ := hr.2 h0
        cases h
    subst hm
    have hn : news = [] := List.eq_nil_of_length_eq_zero (by simpa using hr.1)
    subst hn
    exact ⟨v, w, run_append_of_nil w base t ty e i size ht hi v n xs hown c, by simpa using hown, World.grownBy.refl w _, .inl rfl⟩
  · have hcells : ∀ j u, news[j]? = some u → w.cell? (ad.add j) = some u := by
      intro j u hu
      rcases Nat.eq_zero_or_pos m with h0 | h0
      · subst h0
        have hn : news = [] := List.eq_nil_of_length_eq_zero (by simpa using hr.1)
        subst hn
        simp at hu
      · obtain ⟨ad', h, _, hc⟩ := hr.2 h0
        injection h with h
        subst h
        exact hc j u hu
    obtain ⟨v', w', hrun, h2, h3, _, h5⟩ := run_append_own_at (P := P) w base t ty e i z size bytes ht hi hz hsize hby hzs hsz v n xs hown ad m c news hr.1 hcells h1 h63 hbytes hbase
    exact ⟨v', w', hrun, h2, h3, h5⟩

theorem wp_append_any {o : Oper} {a : Act} {K : Act → World → Prop} {Q : Exit → Act → World → Prop} (s x : Operand) (t : TypeId)
    (ho : o.op = .call { callee := .builtin .append, args := #[s, x], argTypes := #[t, t] })
    (base : Nat) (e : TypeId) (i : TypeInfo) (z : Value) (size bytes : Nat) (ht : P.underlying t = some (.slice e)) (hi : P.info? e = some i) (hz : i.zero = some z)
    (hsize : i.size = size) (hby : i.bytes = bytes) (hzs : z.cells.size = size) (hsz : 0 < size)
    (v : Value) (n : Nat) (xs : List Value) (hs : a.eval s = v) (hown : w.ownsRow base e size v n xs)
    (B : Nat) (A : Option Addr) (m c : Nat) (news : List Value) (hx : a.eval x = .slice A m c) (hr : Reads w B size A m news) (h1 : ∀ u ∈ news, u.oneCell' = true)
    (h63 : n + m ≤ maxLen) (hbytes : (n + m) * bytes ≤ 140737488355328) (hbase : base ≤ w.heap.size)
    (h : ∀ v' w', w'.ownsRow base e size v' (n + m) (xs ++ news) → w.grownBy w' v.ownBlock → (v'.ownBlock = v.ownBlock ∨ v'.ownBlock = some w.heap.size) → K (a.put o.dst v') w') : o.wp P a w K Q := by
  obtain ⟨v', w', hrun, h2, h3, h4⟩ := run_append_any (P := P) w base t o.type e i z size bytes ht hi hz hsize hby hzs hsz v n xs hown B A m c news hr h1 h63 hbytes hbase
  unfold Oper.wp execOp
  simp only [ho, resolve, invoke, builtin, Sem.run_bind, Sem.run_pure, Result.andThen_ok, List.map_toArray, List.map_cons, List.map_nil, hs, hx, hrun]
  exact h v' w' h2 h3 h4

theorem wpList_append_any {ops : Array Oper} {rest : List Oper} {o : Oper} {a : Act} {Q : Exit → Act → World → Prop} (hgd : o.guard = none) (s x : Operand) (t : TypeId)
    (ho : o.op = .call { callee := .builtin .append, args := #[s, x], argTypes := #[t, t] })
    (base : Nat) (e : TypeId) (i : TypeInfo) (z : Value) (size bytes : Nat) (ht : P.underlying t = some (.slice e)) (hi : P.info? e = some i) (hz : i.zero = some z)
    (hsize : i.size = size) (hby : i.bytes = bytes) (hzs : z.cells.size = size) (hsz : 0 < size)
    (v : Value) (n : Nat) (xs : List Value) (hs : a.eval s = v) (hown : w.ownsRow base e size v n xs)
    (B : Nat) (A : Option Addr) (m c : Nat) (news : List Value) (hx : a.eval x = .slice A m c) (hr : Reads w B size A m news) (h1 : ∀ u ∈ news, u.oneCell' = true)
    (h63 : n + m ≤ maxLen) (hbytes : (n + m) * bytes ≤ 140737488355328) (hbase : base ≤ w.heap.size)
    (h : ∀ v' w', w'.ownsRow base e size v' (n + m) (xs ++ news) → w.grownBy w' v.ownBlock → (v'.ownBlock = v.ownBlock ∨ v'.ownBlock = some w.heap.size) → wpList P ops Q rest (a.put o.dst v') w') : wpList P ops Q (o :: rest) a w :=
  wpList_plain hgd fun _ hK => wp_append_any w s x t ho base e i z size bytes ht hi hz hsize hby hzs hsz v n xs hs hown B A m c news hx hr h1 h63 hbytes hbase fun v' w' h2 h3 h4 => hK _ _ (h v' w' h2 h3 h4)

theorem step_append_any {ops : Array Oper} {o : Oper} {a : Act} {K : Act → World → Prop} {Q : Exit → Act → World → Prop} {E : Prop} (hgd : o.guard = none) (s x : Operand) (t : TypeId)
    (ho : o.op = .call { callee := .builtin .append, args := #[s, x], argTypes := #[t, t] })
    (base : Nat) (e : TypeId) (i : TypeInfo) (z : Value) (size bytes : Nat) (ht : P.underlying t = some (.slice e)) (hi : P.info? e = some i) (hz : i.zero = some z)
    (hsize : i.size = size) (hby : i.bytes = bytes) (hzs : z.cells.size = size) (hsz : 0 < size)
    (v : Value) (n : Nat) (xs : List Value) (hs : a.eval s = v) (hown : w.ownsRow base e size v n xs)
    (B : Nat) (A : Option Addr) (m c : Nat) (news : List Value) (hx : a.eval x = .slice A m c) (hr : Reads w B size A m news) (h1 : ∀ u ∈ news, u.oneCell' = true)
    (h63 : n + m ≤ maxLen) (hbytes : (n + m) * bytes ≤ 140737488355328) (hbase : base ≤ w.heap.size)
    (h : ∀ v' w', w'.ownsRow base e size v' (n + m) (xs ++ news) → w.grownBy w' v.ownBlock → (v'.ownBlock = v.ownBlock ∨ v'.ownBlock = some w.heap.size) → K (a.put o.dst v') w') :
    if Region.wanted o (yielded ops a.tmps) = true then Oper.wp P o a w K Q else E := by
  have hw : Region.wanted o (yielded ops a.tmps) = true := by simp [Region.wanted, hgd]
  rw [if_pos hw]
  exact wp_append_any w s x t ho base e i z size bytes ht hi hz hsize hby hzs hsz v n xs hs hown B A m c news hx hr h1 h63 hbytes hbase h
end
theorem ords_reads {w : World} {B : Nat} {A : Option Addr} {l : List Ordr} (h : Ords w B A l) : Reads w B 6 A l.length (ordCells l) := by
  refine ⟨ordCells_length l, fun hn => ?_⟩
  obtain ⟨b, off, rfl, hb, -⟩ := h 0 l[0] (List.getElem?_eq_getElem hn)
  refine ⟨_, rfl, hb, fun j u hu => ?_⟩
  have hj : j < l.length * 6 := by rw [← ordCells_length]; exact (List.getElem?_eq_some_iff.1 hu).1
  have hk : j / 6 < l.length := by omega
  have hok := List.getElem?_eq_getElem hk
  obtain ⟨b', off', e, -, c0, c1, c2, c3, c4, c5⟩ := h (j / 6) _ hok
  obtain ⟨o0, o1, o2, o3, o4, o5⟩ := ordCells_at l (j / 6) _ hok
  cases e
  have fix : (⟨b, off, none⟩ : Addr).add j = ⟨b, off + j, none⟩ := by unfold Addr.add; split <;> simp_all
  rw [fix]
  have hr : j % 6 = 0 ∨ j % 6 = 1 ∨ j % 6 = 2 ∨ j % 6 = 3 ∨ j % 6 = 4 ∨ j % 6 = 5 := by omega
  rcases hr with hr | hr | hr | hr | hr | hr
  · have e : j / 6 * 6 = j := by omega
    rw [e, hu] at o0; cases o0; rw [e] at c0; exact c0
  · have e : j / 6 * 6 + 1 = j := by omega
    rw [e, hu] at o1; cases o1; rw [Nat.add_assoc, e] at c1; exact c1
  · have e : j / 6 * 6 + 2 = j := by omega
    rw [e, hu] at o2; cases o2; rw [Nat.add_assoc, e] at c2; exact c2
  · have e : j / 6 * 6 + 3 = j := by omega
    rw [e, hu] at o3; cases o3; rw [Nat.add_assoc, e] at c3; exact c3
  · have e : j / 6 * 6 + 4 = j := by omega
    rw [e, hu] at o4; cases o4; rw [Nat.add_assoc, e] at c4; exact c4
  · have e : j / 6 * 6 + 5 = j := by omega
    rw [e, hu] at o5; cases o5; rw [Nat.add_assoc, e] at c5; exact c5
theorem ordCells_one (l : List Ordr) : ∀ u ∈ ordCells l, u.oneCell' = true := by
  intro u hu
  simp only [ordCells, List.mem_flatMap] at hu
  obtain ⟨o, _, hu⟩ := hu
  simp at hu
  rcases hu with rfl | rfl | rfl | rfl | rfl | rfl <;> rfl
theorem more_valid {l : List Ordr} {o : Ordr} (h : validF (l ++ [o]) = true) : validF l = true := by
  simp only [validF, Bool.and_eq_true, decide_eq_true_eq, List.all_eq_true, List.length_append, List.mem_append] at h ⊢
  exact ⟨by omega, fun x hx => h.2 x (.inl hx)⟩
theorem more_next {l : List Ordr} {o : Ordr} {d : Int} {p q : Pt} (h : nextF l d p = some q) : nextF (l ++ [o]) d p = some q := by
  unfold nextF at *
  cases hf : l.find? (hitB d p) with
  | none => rw [hf] at h; cases h
  | some x => rw [List.find?_append, hf]; rw [hf] at h; exact h
theorem more_it {l : List Ordr} {o : Ordr} {d : Int} {p : Pt} : ∀ k {q : Pt}, itF (nextF l d) p k = some q → itF (nextF (l ++ [o]) d) p k = some q
  | 0, q, h => h
  | k + 1, q, h => by
    simp only [itF] at h ⊢
    cases hp : itF (nextF l d) p k with
    | none => rw [hp] at h; simp at h
    | some x => rw [hp] at h; rw [more_it k hp]; exact more_next (by simpa using h)
theorem back_five {l : List Ordr} {d : Int} {p : Pt} (hv : validF l = true) (h : (followF l d p).2 ≠ 0) : ∃ x, itF (nextF l d) p 5 = some x := by
  rcases follow_why hv (p := p) (d := d) with h0 | ⟨_, i, j, x, hij, hi, hj⟩ | ⟨_, x, h5⟩
  · exact absurd h0 h
  · have := it_loop hij hi hj 5
    cases h5 : itF (nextF l d) p 5 with
    | none => exact absurd h5 this
    | some x => exact ⟨x, rfl⟩
  · exact ⟨x, h5⟩
theorem final_more {l : List Ordr} {o : Ordr} {d : Int} {p s : Pt} (hv : validF (l ++ [o]) = true) (h : (finalF l d p s).2 = true) : finalF l d p s = (s, true) ∧ finalF (l ++ [o]) d p s = (s, true) := by
  have hne : (followF l d p).2 ≠ 0 := fun e => by simp [finalF, e] at h
  obtain ⟨x, hx⟩ := back_five (more_valid hv) hne
  have h5 := (follow_five hv (more_it (o := o) 5 hx)).1
  refine ⟨by simp [finalF, hne], ?_⟩
  have : (followF (l ++ [o]) d p).2 ≠ 0 := by omega
  simp [finalF, this]

set_option maxRecDepth 100000 in
set_option maxHeartbeats 2000000 in
theorem law_returns (l : List Ordr) (A : Option Addr) (c : Nat) (day px py sx sy tx ty : Int) (w : World) (hl : Ords w w.heap.size A l) (_hm : l.length ≤ maxLen) (hby : l.length * 48 ≤ 140737488351232) :
    Calls Try.prog 8 #[.slice A l.length c, .int .i64 day, .agg #[.int .i64 px, .int .i64 py], .agg #[.int .i64 sx, .int .i64 sy], .agg #[.int .i64 tx, .int .i64 ty]] w (BoolPost true w) := by
  obtain ⟨i0, z0, hi0, hz0, hz1, hz2, hz3⟩ := info39
  obtain ⟨n, hn⟩ : ∃ n, n = l.length := ⟨_, rfl⟩
  rw [← hn]
  have HN := Lib.hid hn; clear hn
  have bx00 : Blk (((w.alloc (.cells #[Value.int .i64 px, .int .i64 py] 24)).alloc (.cells #[Value.int .i64 sx, .int .i64 sy] 24)).alloc (.cells #[Value.int .i64 tx, .int .i64 ty] 24)) (w.heap.size) 24 #[Value.int .i64 px, .int .i64 py] := ((Blk.new w _ _).alloc _).alloc _
  have bx10 : Blk (((w.alloc (.cells #[Value.int .i64 px, .int .i64 py] 24)).alloc (.cells #[Value.int .i64 sx, .int .i64 sy] 24)).alloc (.cells #[Value.int .i64 tx, .int .i64 ty] 24)) (w.heap.size + 1) 24 #[Value.int .i64 sx, .int .i64 sy] := by
    have h := Blk.new (w.alloc (.cells #[Value.int .i64 px, .int .i64 py] 24)) 24 #[Value.int .i64 sx, .int .i64 sy]
    rw [World.size_alloc] at h; exact h.alloc _
  have bx20 : Blk (((w.alloc (.cells #[Value.int .i64 px, .int .i64 py] 24)).alloc (.cells #[Value.int .i64 sx, .int .i64 sy] 24)).alloc (.cells #[Value.int .i64 tx, .int .i64 ty] 24)) (w.heap.size + 1 + 1) 24 #[Value.int .i64 tx, .int .i64 ty] := by
    have h := Blk.new ((w.alloc (.cells #[Value.int .i64 px, .int .i64 py] 24)).alloc (.cells #[Value.int .i64 sx, .int .i64 sy] 24)) 24 #[Value.int .i64 tx, .int .i64 ty]
    rw [World.size_alloc, World.size_alloc] at h; exact h
  have k0 : Keeps w (((w.alloc (.cells #[Value.int .i64 px, .int .i64 py] 24)).alloc (.cells #[Value.int .i64 sx, .int .i64 sy] 24)).alloc (.cells #[Value.int .i64 tx, .int .i64 ty] 24)) := (((Keeps.refl w).alloc _).alloc _).alloc _
  have q0 := hl.keep k0
  have hn12 : l.length ≤ 10000000000000 := by omega
  go_enter Try.func8, Try.ntmps8
  go_wp2_with fail
  generalize ((w.alloc (.cells #[Value.int .i64 px, .int .i64 py] 24)).alloc (.cells #[Value.int .i64 sx, .int .i64 sy] 24)).alloc (.cells #[Value.int .i64 tx, .int .i64 ty] 24) = W0 at *
  refine (head_any _).mono ?_
  rintro e W1 ⟨rfl, h1⟩
  have bx00_1 := bx00.below h1 bx00.lt; clear bx00
  have bx10_1 := bx10.below h1 bx10.lt; clear bx10
  have bx20_1 := bx20.below h1 bx20.lt; clear bx20
  have q0_1 := q0.keep h1; clear q0
  have k_1 := k0.trans h1; clear k0
  have bx00_1x0 : W1.cell? ⟨w.heap.size, 0, none⟩ = some (.int .i64 px) := cell_of_blk bx00_1 0 rfl
  have bx00_1x1 : W1.cell? ⟨w.heap.size, 1, none⟩ = some (.int .i64 py) := cell_of_blk bx00_1 1 rfl
  have bx00_1z := bx00_1.lt
  have bx10_1x0 : W1.cell? ⟨w.heap.size + 1, 0, none⟩ = some (.int .i64 sx) := cell_of_blk bx10_1 0 rfl
  have bx10_1x1 : W1.cell? ⟨w.heap.size + 1, 1, none⟩ = some (.int .i64 sy) := cell_of_blk bx10_1 1 rfl
  have bx10_1z := bx10_1.lt
  have bx20_1x0 : W1.cell? ⟨w.heap.size + 1 + 1, 0, none⟩ = some (.int .i64 tx) := cell_of_blk bx20_1 0 rfl
  have bx20_1x1 : W1.cell? ⟨w.heap.size + 1 + 1, 1, none⟩ = some (.int .i64 ty) := cell_of_blk bx20_1 1 rfl
  have bx20_1z := bx20_1.lt
  go_wp2_with fail
  have SOF := Lib.hid (show ∀ X, Keeps W1 X → (fun w' => w'.cell? ⟨w.heap.size + 1, 0, none⟩ = some (.int .i64 sx) ∧ w'.cell? ⟨w.heap.size + 1, 1, none⟩ = some (.int .i64 sy) ∧ w'.cell? ⟨w.heap.size + 1 + 1, 0, none⟩ = some (.int .i64 tx) ∧ w'.cell? ⟨w.heap.size + 1 + 1, 1, none⟩ = some (.int .i64 ty) ∧ Keeps W1 w') X from fun X hX => ⟨cell_keep bx10_1x0 hX, cell_keep bx10_1x1 hX, cell_keep bx20_1x0 hX, cell_keep bx20_1x1 hX, hX⟩)
  have hnn := HN.out
  have RD0 := ords_reads q0_1
  rw [← hnn] at RD0
  have RD := Lib.hid (RD0.more (Nat.le_refl _))
  clear RD0
  have O1 := Lib.hid (ordCells_one l)
  have G3 : 0 + n ≤ maxLen := by omega
  have G4 : (0 + n) * 48 ≤ 140737488355328 := by omega
  have G5 : 0 + n + 1 ≤ maxLen := by unfold maxLen; omega
  have G6 : (0 + n + 1) * 48 ≤ 140737488355328 := by omega
  have NO := Lib.hid (show ∀ u ∈ [Value.int .i64 sx, .int .i64 sy, .int .i64 tx, .int .i64 ty, .int .i64 day, .int .i64 day], u.oneCell' = true by simp [Value.oneCell'])
  have own0 : (W1.alloc (.cells #[] 39)).ownsRow W1.heap.size 39 6 (.slice (some ⟨W1.heap.size, 0, none⟩) 0 0) 0 [] := World.ownsRow_lit W1 #[] 0 (Nat.le_refl _) (by unfold maxLen; omega) rfl
  clear hnn
  have own1 : ((W1.alloc (.cells #[Value.int .i64 sx, .int .i64 sy, .int .i64 tx, .int .i64 ty, .int .i64 day, .int .i64 day] 39)).alloc (.cells #[] 39)).ownsRow W1.heap.size 39 6 (.slice (some ⟨W1.heap.size + 1, 0, none⟩) 0 0) 0 [] := by
    have h := World.ownsRow_lit (base := W1.heap.size) (e := 39) (size := 6) (W1.alloc (.cells #[Value.int .i64 sx, .int .i64 sy, .int .i64 tx, .int .i64 ty, .int .i64 day, .int .i64 day] 39)) #[] 0 (by simp) (by unfold maxLen; omega) rfl
    rw [World.size_alloc] at h; exact h
  have NB1 := Lib.hid (show Blk ((W1.alloc (.cells #[] 39)).alloc (.cells #[Value.int .i64 sx, .int .i64 sy, .int .i64 tx, .int .i64 ty, .int .i64 day, .int .i64 day] 39)) (W1.heap.size + 1) 39 #[Value.int .i64 sx, .int .i64 sy, .int .i64 tx, .int .i64 ty, .int .i64 day, .int .i64 day] by have h := Blk.new (W1.alloc (.cells #[] 39)) 39 #[Value.int .i64 sx, .int .i64 sy, .int .i64 tx, .int .i64 ty, .int .i64 day, .int .i64 day]; rw [World.size_alloc] at h; exact h)
  have NB2 := Lib.hid (show Blk ((W1.alloc (.cells #[Value.int .i64 sx, .int .i64 sy, .int .i64 tx, .int .i64 ty, .int .i64 day, .int .i64 day] 39)).alloc (.cells #[] 39)) W1.heap.size 39 #[Value.int .i64 sx, .int .i64 sy, .int .i64 tx, .int .i64 ty, .int .i64 day, .int .i64 day] from (Blk.new W1 39 #[Value.int .i64 sx, .int .i64 sy, .int .i64 tx, .int .i64 ty, .int .i64 day, .int .i64 day]).alloc (.cells #[] 39))
  go_region_held3 (fun w' => w'.cell? ⟨w.heap.size + 1, 0, none⟩ = some (.int .i64 sx) ∧ w'.cell? ⟨w.heap.size + 1, 1, none⟩ = some (.int .i64 sy) ∧ w'.cell? ⟨w.heap.size + 1 + 1, 0, none⟩ = some (.int .i64 tx) ∧ w'.cell? ⟨w.heap.size + 1 + 1, 1, none⟩ = some (.int .i64 ty) ∧ Keeps W1 w') ((refine SOF.out _ ?_; (repeat (first | exact Keeps.refl _ | assumption | apply Keeps.drew | apply Keeps.alloc)); done))
    (first | (refine step_append_lies _ (by rfl) _ _ _ (by rfl) W1.heap.size 39 i0 z0 6 48 Try.underlying22 hi0 hz0 hz1 hz2 hz3 (by decide) v1 (0 + n) ([] ++ ordCells l) (by rfl) (by first | exact hown1.alloc _ | exact (hown1.alloc _).drew) ⟨w1.heap.size, 0, none⟩ 1 1 [Value.int .i64 sx, .int .i64 sy, .int .i64 tx, .int .i64 ty, .int .i64 day, .int .i64 day] (by rfl) (by rfl) (World.news_of_block (cs := #[Value.int .i64 sx, .int .i64 sy, .int .i64 tx, .int .i64 ty, .int .i64 day, .int .i64 day]) (t := 39) (fr := (0, 0)) (heap_alloc_new w1 _)) NO.out (by omega) G5 G6 (by have := hk1.size; first | omega | (simp; done) | (simp; omega)) (w1.heap.size + 1) (by simp) ?_; intro gg cap w2 hown2 hg2 hat2 hlt2; have hk2 : Keeps W1 w2 := by (first | exact Below.grown (hk1.alloc _) hg2 (hk1.alloc _).size (fun k hk => (own_lt hown1 hk).1) | exact Below.grown ((hk1.alloc _).drew) hg2 (hk1.alloc _).size (fun k hk => (own_lt hown1 hk).1))) | (have nb : Blk w1 (W1.heap.size + 1) 39 #[Value.int .i64 sx, .int .i64 sy, .int .i64 tx, .int .i64 ty, .int .i64 day, .int .i64 day] := (by first | exact NB1.out.grown hg1 (ne_own (by omega)) | exact NB1.out.drew.grown hg1 (ne_own (by omega))); refine step_append_lies _ (by rfl) _ _ _ (by rfl) W1.heap.size 39 i0 z0 6 48 Try.underlying22 hi0 hz0 hz1 hz2 hz3 (by decide) v1 (0 + n) ([] ++ ordCells l) (by rfl) (by first | exact hown1 | exact (hown1).drew) ⟨W1.heap.size + 1, 0, none⟩ 1 1 [Value.int .i64 sx, .int .i64 sy, .int .i64 tx, .int .i64 ty, .int .i64 day, .int .i64 day] (by rfl) (by rfl) (World.news_of_block (cs := #[Value.int .i64 sx, .int .i64 sy, .int .i64 tx, .int .i64 ty, .int .i64 day, .int .i64 day]) (t := 39) (fr := (0, 0)) nb) NO.out (by omega) G5 G6 (by have := hk1.size; first | omega | (simp; done) | (simp; omega)) w1.heap.size (by simp) ?_; intro gg cap w2 hown2 hg2 hat2 hlt2; have hk2 : Keeps W1 w2 := by (first | exact Below.grown (hk1) hg2 (hk1).size (fun k hk => (own_lt hown1 hk).1) | exact Below.grown ((hk1).drew) hg2 (hk1).size (fun k hk => (own_lt hown1 hk).1))) | (have nb : Blk w1 W1.heap.size 39 #[Value.int .i64 sx, .int .i64 sy, .int .i64 tx, .int .i64 ty, .int .i64 day, .int .i64 day] := (by first | exact NB2.out.grown hg1 (ne_own (by omega)) | exact NB2.out.drew.grown hg1 (ne_own (by omega))); refine step_append_lies _ (by rfl) _ _ _ (by rfl) W1.heap.size 39 i0 z0 6 48 Try.underlying22 hi0 hz0 hz1 hz2 hz3 (by decide) v1 (0 + n) ([] ++ ordCells l) (by rfl) (by first | exact hown1 | exact (hown1).drew) ⟨W1.heap.size, 0, none⟩ 1 1 [Value.int .i64 sx, .int .i64 sy, .int .i64 tx, .int .i64 ty, .int .i64 day, .int .i64 day] (by rfl) (by rfl) (World.news_of_block (cs := #[Value.int .i64 sx, .int .i64 sy, .int .i64 tx, .int .i64 ty, .int .i64 day, .int .i64 day]) (t := 39) (fr := (0, 0)) nb) NO.out (by omega) G5 G6 (by have := hk1.size; first | omega | (simp; done) | (simp; omega)) w1.heap.size (by simp) ?_; intro gg cap w2 hown2 hg2 hat2 hlt2; have hk2 : Keeps W1 w2 := by (first | exact Below.grown (hk1) hg2 (hk1).size (fun k hk => (own_lt hown1 hk).1) | exact Below.grown ((hk1).drew) hg2 (hk1).size (fun k hk => (own_lt hown1 hk).1))) | (refine step_append_any _ (by rfl) _ _ _ (by rfl) W1.heap.size 39 i0 z0 6 48 Try.underlying22 hi0 hz0 hz1 hz2 hz3 (by decide) (.slice (some ⟨W1.heap.size, 0, none⟩) 0 0) 0 [] (by rfl) (own0.drew) W1.heap.size A n c (ordCells l) (by rfl) ((RD.out.alloc (Nat.le_refl _) _).drew) O1.out G3 G4 (by first | (simp; done) | (simp; omega)) ?_; intro v1 w1 hown1 hg1 hat1; have hk1 : Keeps W1 w1 := Below.grown (((Keeps.refl W1).alloc _).drew) hg1 (by first | (simp; done) | (simp; omega)) (own_base (by first | (simp; done) | (simp; omega)))) | (refine step_append_any _ (by rfl) _ _ _ (by rfl) W1.heap.size 39 i0 z0 6 48 Try.underlying22 hi0 hz0 hz1 hz2 hz3 (by decide) (.slice (some ⟨W1.heap.size, 0, none⟩) 0 0) 0 [] (by rfl) ((own0.alloc _).drew) W1.heap.size A n c (ordCells l) (by rfl) (((RD.out.alloc (Nat.le_refl _) _).alloc (by simp) _).drew) O1.out G3 G4 (by first | (simp; done) | (simp; omega)) ?_; intro v1 w1 hown1 hg1 hat1; have hk1 : Keeps W1 w1 := Below.grown ((((Keeps.refl W1).alloc _).alloc _).drew) hg1 (by first | (simp; done) | (simp; omega)) (own_base (by first | (simp; done) | (simp; omega)))) | (refine step_append_any _ (by rfl) _ _ _ (by rfl) W1.heap.size 39 i0 z0 6 48 Try.underlying22 hi0 hz0 hz1 hz2 hz3 (by decide) (.slice (some ⟨W1.heap.size + 1, 0, none⟩) 0 0) 0 [] (by rfl) (own1.drew) W1.heap.size A n c (ordCells l) (by rfl) (((RD.out.alloc (Nat.le_refl _) _).alloc (by simp) _).drew) O1.out G3 G4 (by first | (simp; done) | (simp; omega)) ?_; intro v1 w1 hown1 hg1 hat1; have hk1 : Keeps W1 w1 := Below.grown ((((Keeps.refl W1).alloc _).alloc _).drew) hg1 (by first | (simp; done) | (simp; omega)) (own_base (by first | (simp; done) | (simp; omega)))))
  
  all_goals
    have kk := k_1.trans hk2
    have qa0 := q0_1.keep hk2
    have bp0 := bx00_1.below hk2 bx00_1.lt
    have bq0 := bx10_1.below hk2 bx10_1.lt
    have hmore : ordCells (l ++ [⟨(sx, sy), (tx, ty), day, day⟩]) = [] ++ ordCells l ++ [Value.int .i64 sx, .int .i64 sy, .int .i64 tx, .int .i64 ty, .int .i64 day, .int .i64 day] := by rw [ordCells_append]; rfl
    rw [← hmore] at hown2
    have hlen : 0 + n + 1 = (l ++ [(⟨(sx, sy), (tx, ty), day, day⟩ : Ordr)]).length := by simp [← HN.out]
    have qb0 := Ords.of_own hown2 hlen
    have hm12 : (l ++ [(⟨(sx, sy), (tx, ty), day, day⟩ : Ordr)]).length ≤ 10000000000000 := by rw [← hlen]; omega
    clear hown2 hmore hg2 hat2 hlt2 hk2
    generalize (⟨(sx, sy), (tx, ty), day, day⟩ : Ordr) = od at *
    rw [Nat.zero_add] at hlen
    have HL := Lib.hid hlen
    clear hlen
  
    by_cases h39 : 39 < n
    · go_wp2
      go_ret
      exact ⟨rfl, kk⟩
    · have h39' : ¬ ((39 : Int) < (n : Int)) := by omega
      go_wp2_with fail
      with_reducible refine (rvalid_is (l ++ [od]) _ (n + 1) _ _ qb0 (by have := HL.out; omega) HL.out).mono ?_
      rintro e W4 ⟨rfl, h4⟩
      have bp0_1 := bp0.below h4 bp0.lt; clear bp0
      have bq0_1 := bq0.below h4 bq0.lt; clear bq0
      have qa0_1 := qa0.keep h4; clear qa0
      have qb0_1 := qb0.keep h4; clear qb0
      have k_1 := kk.trans h4; clear kk
      cases hv : validF (l ++ [od])
      · go_wp2
        go_ret
        exact ⟨rfl, k_1⟩
      · skip
        have bp0_1x0 : W4.cell? ⟨w.heap.size, 0, none⟩ = some (.int .i64 px) := cell_of_blk bp0_1 0 rfl
        have bp0_1x1 : W4.cell? ⟨w.heap.size, 1, none⟩ = some (.int .i64 py) := cell_of_blk bp0_1 1 rfl
        have bp0_1z := bp0_1.lt
        have bq0_1x0 : W4.cell? ⟨w.heap.size + 1, 0, none⟩ = some (.int .i64 sx) := cell_of_blk bq0_1 0 rfl
        have bq0_1x1 : W4.cell? ⟨w.heap.size + 1, 1, none⟩ = some (.int .i64 sy) := cell_of_blk bq0_1 1 rfl
        have bq0_1z := bq0_1.lt
        obtain ⟨z, bk, hi1⟩ : ∃ z bk, finalF l day (px, py) (sx, sy) = (z, bk) := ⟨_, _, rfl⟩
        obtain ⟨y, bk2, hi2⟩ : ∃ y bk2, finalF (l ++ [od]) day (px, py) (sx, sy) = (y, bk2) := ⟨_, _, rfl⟩
        have hres : bk = true → z = (sx, sy) ∧ y = (sx, sy) ∧ bk2 = true := by
          intro hb
          have := final_more (l := l) (o := od) (d := day) (p := (px, py)) (s := (sx, sy)) hv (by rw [hi1]; exact hb)
          rw [hi1, hi2] at this
          simp only [Prod.mk.injEq] at this
          exact ⟨this.1.1, this.2.1, this.2.2⟩
        have I1 := Lib.hid hi1; have I2 := Lib.hid hi2
        clear hi1 hi2 hv
        go_wp2_with fail
        with_reducible refine (final_is l A n c _ _ _ _ _ _ qa0_1 (by have := HN.out; omega) HN.out _ I1.out).mono ?_
        rintro e W5 ⟨rfl, h5⟩
        clear bp0_1x0 bp0_1x1 bp0_1z
        clear bq0_1x0 bq0_1x1 bq0_1z
        have bp0_2 := bp0_1.below h5 bp0_1.lt; clear bp0_1
        have bq0_2 := bq0_1.below h5 bq0_1.lt; clear bq0_1
        have qa0_2 := qa0_1.keep h5; clear qa0_1
        have qb0_2 := qb0_1.keep h5; clear qb0_1
        have k_2 := k_1.trans h5; clear k_1
        have bp0_2x0 : W5.cell? ⟨w.heap.size, 0, none⟩ = some (.int .i64 px) := cell_of_blk bp0_2 0 rfl
        have bp0_2x1 : W5.cell? ⟨w.heap.size, 1, none⟩ = some (.int .i64 py) := cell_of_blk bp0_2 1 rfl
        have bp0_2z := bp0_2.lt
        have bq0_2x0 : W5.cell? ⟨w.heap.size + 1, 0, none⟩ = some (.int .i64 sx) := cell_of_blk bq0_2 0 rfl
        have bq0_2x1 : W5.cell? ⟨w.heap.size + 1, 1, none⟩ = some (.int .i64 sy) := cell_of_blk bq0_2 1 rfl
        have bq0_2z := bq0_2.lt
        go_wp2_with fail
        clear bp0_2x0 bp0_2x1 bp0_2z
        clear bq0_2x0 bq0_2x1 bq0_2z
        have hy := (Keeps.refl W5).alloc (.cells #[Value.int .i64 z.1, .int .i64 z.2] 24)
        have by0 := Blk.new W5 24 #[Value.int .i64 z.1, .int .i64 z.2]
        have bp0_3 := bp0_2.below hy bp0_2.lt; clear bp0_2
        have bq0_3 := bq0_2.below hy bq0_2.lt; clear bq0_2
        have qa0_3 := qa0_2.keep hy; clear qa0_2
        have qb0_3 := qb0_2.keep hy; clear qb0_2
        have k_3 := k_2.trans hy; clear k_2
        generalize W5.alloc (.cells #[Value.int .i64 z.1, .int .i64 z.2] 24) = U5 at *
        with_reducible refine (final_is (l ++ [od]) _ (n + 1) _ _ _ _ _ _ _ qb0_3 (by have := HL.out; omega) HL.out _ I2.out).mono ?_
        rintro e W6 ⟨rfl, h6⟩
        have bp0_4 := bp0_3.below h6 bp0_3.lt; clear bp0_3
        have bq0_4 := bq0_3.below h6 bq0_3.lt; clear bq0_3
        have by0_4 := by0.below h6 by0.lt; clear by0
        have qa0_4 := qa0_3.keep h6; clear qa0_3
        have qb0_4 := qb0_3.keep h6; clear qb0_3
        have k_4 := k_3.trans h6; clear k_3
        have bp0_4x0 : W6.cell? ⟨w.heap.size, 0, none⟩ = some (.int .i64 px) := cell_of_blk bp0_4 0 rfl
        have bp0_4x1 : W6.cell? ⟨w.heap.size, 1, none⟩ = some (.int .i64 py) := cell_of_blk bp0_4 1 rfl
        have bp0_4z := bp0_4.lt
        have bq0_4x0 : W6.cell? ⟨w.heap.size + 1, 0, none⟩ = some (.int .i64 sx) := cell_of_blk bq0_4 0 rfl
        have bq0_4x1 : W6.cell? ⟨w.heap.size + 1, 1, none⟩ = some (.int .i64 sy) := cell_of_blk bq0_4 1 rfl
        have bq0_4z := bq0_4.lt
        have by0_4x0 : W6.cell? ⟨W5.heap.size, 0, none⟩ = some (.int .i64 z.1) := cell_of_blk by0_4 0 rfl
        have by0_4x1 : W6.cell? ⟨W5.heap.size, 1, none⟩ = some (.int .i64 z.2) := cell_of_blk by0_4 1 rfl
        have by0_4z := by0_4.lt
        have eqP := run_eq_pt
        cases bk with
        | false =>
          go_wp2_with fail
          go_ret
          exact ⟨rfl, k_4.alloc _⟩
        | true =>
          obtain ⟨rfl, rfl, rfl⟩ := hres rfl
          go_wp2_with fail
          go_ret
          exact ⟨rfl, k_4.alloc _⟩
end Go.Proofs.Ytajobinkabdmkaa
