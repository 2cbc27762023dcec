/- Part of the proof of TopOwnItem. Conditions: as stated in each theorem. -/
import Derived.Test.YthkmpegpmpdhaaaGreatDoorProg
import Derived.WalkKit
import Derived.WalkSpells
import Derived.WalkLawsBesides
import Derived.Laws.EntriesVeiled
import Derived.ProofKit
import Derived.OpenShut
import Derived.Lib.Hide
import Derived.BigQuiet
import Derived.Deep.QuietTactic
import Derived.Deep.CutRange
import Derived.StillTailTactics
import Derived.Lib.SliceRun
import Derived.RangeFuncRecord
import Derived.Carry
import Derived.ChangeKeysEq
import Derived.Below
import Derived.Laws.OwnMore
import Derived.Deep.AppendLies
import Derived.Deep.Draws
import Derived.Laws.Rows
import Derived.Maps.AppendAt
import Derived.RegionTactic
import Derived.OwnWalk
import Derived.Deep.RegionHeld3
namespace Go.Proofs.YthkmpegpmpdhaaaGreatDoor
section
open Go.ChangeShapes Go.WideShapes Go.ChangeAt Go.RowKit
set_option linter.unusedSimpArgs false
set_option linter.unusedVariables false
theorem block_of_add (a : Addr) (n : Nat) : (a.add n).block = a.block := by unfold Addr.add; split <;> rfl
theorem add_of_add (a : Addr) (i j : Nat) : (a.add i).add j = a.add (i + j) := by
  unfold Addr.add
  by_cases hi : i = 0 <;> by_cases hj : j = 0 <;> simp [hi, hj, Nat.add_assoc]

def Reads (w : World) (B size : Nat) (A : Option Addr) (n : Nat) (xs : List Value) : Prop :=
  xs.length = n * size ∧ (0 < n → ∃ ad, A = some ad ∧ ad.block < B ∧ ∀ j u, xs[j]? = some u → w.cell? (ad.add j) = some u)

section
variable {w w' : World} {B B' size n : Nat} {A : Option Addr} {xs : List Value}
theorem Reads.none_ : Reads w B size A 0 [] := ⟨by simp, fun h => absurd h (by omega)⟩
theorem Reads.at_ {k : Nat} (h : Reads w B 1 A n xs) (hk : k < n) : ∃ ad u, A = some ad ∧ ad.block < B ∧ xs[k]? = some u ∧ w.cell? (ad.add k) = some u := by
  obtain ⟨ad, e, hb, hc⟩ := h.2 (by omega)
  have hl : k < xs.length := by have := h.1; omega
  exact ⟨ad, xs[k], e, hb, List.getElem?_eq_getElem hl, hc k _ (List.getElem?_eq_getElem hl)⟩
theorem Reads.keep (h : Reads w B size A n xs) (hk : ∀ p : Addr, p.block < B → w'.cell? p = w.cell? p) : Reads w' B size A n xs :=
  ⟨h.1, fun hn => by
    obtain ⟨ad, e, hb, hc⟩ := h.2 hn
    exact ⟨ad, e, hb, fun j u hu => (hk _ (by rw [block_of_add]; exact hb)).trans (hc j u hu)⟩⟩
theorem Reads.more (h : Reads w B size A n xs) (hB : B ≤ B') : Reads w B' size A n xs :=
  ⟨h.1, fun hn => by
    obtain ⟨ad, e, hb, hc⟩ := h.2 hn
    exact ⟨ad, e, by omega, hc⟩⟩
theorem Reads.below (h : Reads w B size A n xs) (hb : Below B w w') : Reads w' B size A n xs := h.keep fun _ hp => hb.cell hp
theorem Reads.drew (h : Reads w B size A n xs) : Reads w.drew B size A n xs := h
theorem Reads.drewN (h : Reads w B size A n xs) (k : Nat) : Reads (w.drewN k) B size A n xs := h
theorem Reads.alloc (h : Reads w B size A n xs) (hB : B ≤ w.heap.size) (o : Obj) : Reads (w.alloc o) B size A n xs := h.keep fun p hp => World.cell?_alloc_lt w o p (by omega)
theorem Reads.setCell (h : Reads w B size A n xs) {p : Addr} (hB : B ≤ p.block) (u : Value) : Reads (w.setCell p u) B size A n xs :=
  h.keep fun q hq => World.cell?_setCell_other w p q u (fun e => by subst e; omega)
theorem Reads.grown (h : Reads w B size A n xs) {row : Option Nat} (hg : w.grownBy w' row) (hB : B ≤ w.heap.size) (hr : ∀ g, row = some g → B ≤ g) : Reads w' B size A n xs :=
  h.keep fun p hp => World.cell?_of_block (hg.block p.block (by omega) (fun e => by have := hr _ e.symm; omega))
theorem Reads.cut (h : Reads w B size A n xs) {k cap : Nat} (hk : k ≤ n) (hc : n ≤ cap) :
    Reads w B size (if cap = k then A else A.map (·.add (k * size))) (n - k) (xs.drop (k * size)) := by
  refine ⟨by rw [List.length_drop, h.1, Nat.sub_mul], fun hn => ?_⟩
  obtain ⟨ad, rfl, hb, hcell⟩ := h.2 (by omega)
  rw [if_neg (by omega)]
  refine ⟨ad.add (k * size), rfl, by rw [block_of_add]; exact hb, fun j u hu => ?_⟩
  rw [add_of_add]
  exact hcell _ u (by rw [← hu, List.getElem?_drop])
theorem Reads.of_own {base : Nat} {e : TypeId} {c : Nat} (h : w.ownsRow base e size (.slice A n c) n xs) : Reads w w.heap.size size A n xs := by
  refine ⟨h.1, fun hn => ?_⟩
  obtain ⟨g, cap, hv, _, hlt⟩ := h.form hn
  have hA : A = some ⟨g, 0, none⟩ := by injection hv
  subst hA
  exact ⟨_, rfl, hlt, h.cells (g := g) rfl⟩
end

def Blk (w : World) (g : Nat) (t : TypeId) (cs : Array Value) : Prop := w.heap[g]? = some (.cells cs t (0, 0))

section
variable {w w' : World} {g : Nat} {t : TypeId} {cs : Array Value}
theorem Blk.lt (h : Blk w g t cs) : g < w.heap.size := by
  rcases Nat.lt_or_ge g w.heap.size with hlt | hge
  · exact hlt
  · unfold Blk at h; rw [Array.getElem?_eq_none hge] at h; cases h
theorem Blk.cell (h : Blk w g t cs) (i : Nat) : w.cell? ⟨g, i, none⟩ = cs[i]? := cell_of_row w g i cs t (0, 0) h
theorem Blk.frozen (h : Blk w g t cs) (i : Nat) : w.frozen? ⟨g, i, none⟩ = false := by
  unfold Blk at h
  simp [World.frozen?, h]
theorem Blk.new (w : World) (t : TypeId) (cs : Array Value) : Blk (w.alloc (.cells cs t)) w.heap.size t cs := heap_alloc_new w _
theorem Blk.drew (h : Blk w g t cs) : Blk w.drew g t cs := h
theorem Blk.drewN (h : Blk w g t cs) (n : Nat) : Blk (w.drewN n) g t cs := h
theorem Blk.alloc (h : Blk w g t cs) (o : Obj) : Blk (w.alloc o) g t cs := (Below.heap_alloc w o g h.lt).trans h
theorem Blk.set_ (h : Blk w g t cs) (i : Nat) (u : Value) : Blk (w.setCell ⟨g, i, none⟩ u) g t (cs.setIfInBounds i u) := by
  unfold Blk at h ⊢
  simp [World.setCell, Array.getElem?_modify, h]
theorem Blk.far (h : Blk w g t cs) {p : Addr} (hp : g ≠ p.block) (u : Value) : Blk (w.setCell p u) g t cs := (Below.heap_setCell w p u g hp).trans h
theorem Blk.below {B : Nat} (h : Blk w g t cs) (hb : Below B w w') (hg : g < B) : Blk w' g t cs := (hb.block g hg).trans h
theorem Blk.grown {row : Option Nat} (h : Blk w g t cs) (hb : w.grownBy w' row) (hg : some g ≠ row) : Blk w' g t cs := (hb.block g h.lt hg).trans h
theorem Blk.ne_ {g' : Nat} {t' : TypeId} {cs' : Array Value} (h : Blk w g t cs) (h' : Blk w g' t' cs') (hne : t ≠ t') : g ≠ g' := by
  rintro rfl
  unfold Blk at h h'
  rw [h] at h'
  injection h' with h'
  injection h' with _ ht
  exact hne ht
theorem own_blk_ne {base : Nat} {e : TypeId} {size n : Nat} {v : Value} {xs : List Value} (h : w.ownsRow base e size v n xs) (hg : Blk w g t cs) (hne : e ≠ t) : v.ownBlock ≠ some g := by
  rcases h.2 with ⟨rfl, _⟩ | ⟨g', cap, cur, rfl, _, hh, _⟩
  · simp [Value.ownBlock]
  · intro he
    have : g' = g := by simpa [Value.ownBlock] using he
    subst this
    exact Blk.ne_ (t := e) hh hg hne rfl
end

/-- Nothing that was there has turned. -/
def Keeps (w w' : World) : Prop := Below w.heap.size w w'
theorem Keeps.refl (w : World) : Keeps w w := Below.refl _ _
theorem Keeps.trans {a b c : World} (h : Keeps a b) (k : Keeps b c) : Keeps a c := Below.trans h (Below.mono k (Below.size h))
theorem Keeps.alloc {a b : World} (h : Keeps a b) (o : Obj) : Keeps a (b.alloc o) := Below.alloc h (Below.size h) o
theorem Keeps.drew {a b : World} (h : Keeps a b) : Keeps a b.drew := Below.drew h
theorem Keeps.drewN {a b : World} (h : Keeps a b) (n : Nat) : Keeps a (b.drewN n) := ⟨h.os, h.tape, h.output, h.size, h.block⟩

theorem Keeps.setCell {a b : World} (h : Keeps a b) {p : Addr} (hp : a.heap.size ≤ p.block) (u : Value) : Keeps a (b.setCell p u) := Below.setCell h hp u

section
variable {P : Program} (w : World)

theorem run_append_of_nil (base : Nat) (t ty e : TypeId) (i : TypeInfo) (size : Nat) (ht : P.underlying t = some (.slice e)) (hi : P.info? e = some i)
    (v : Value) (n : Nat) (xs : List Value) (hown : w.ownsRow base e size v n xs) (c : Nat) : (Builtin.append_ #[t, t] ty #[v, .slice none 0 c]).run P w = .ok v w := by
  rcases hown.2 with ⟨rfl, rfl⟩ | ⟨g, cap, cur, rfl, _, _, hnc, _⟩
  · simp [Builtin.append_, run_underlying ht, sizeOf, typeInfo, hi, Builtin.lenOf, Builtin.firstCells]
  · simp [Builtin.append_, run_underlying ht, sizeOf, typeInfo, hi, Builtin.lenOf, Builtin.firstCells, hnc, storeCells]

theorem run_append_any (base : Nat) (t ty e : TypeId) (i : TypeInfo) (z : Value) (size bytes : Nat) (ht : P.underlying t = some (.slice e)) (hi : P.info? e = some i) (hz : i.zero = some z)
    (hsize : i.size = size) (hby : i.bytes = bytes) (hzs : z.cells.size = size) (hsz : 0 < size)
    (v : Value) (n : Nat) (xs : List Value) (hown : w.ownsRow base e size v n xs)
    (B : Nat) (A : Option Addr) (m c : Nat) (news : List Value) (hr : Reads w B size A m news) (h1 : ∀ u ∈ news, u.oneCell' = true)
    (h63 : n + m ≤ maxLen) (hbytes : (n + m) * bytes ≤ 140737488355328) (hbase : base ≤ w.heap.size) :
    ∃ v' w', (Builtin.append_ #[t, t] ty #[v, .slice A m c]).run P w = .ok v' w' ∧ w'.ownsRow base e size v' (n + m) (xs ++ news) ∧ w.grownBy w' v.ownBlock ∧
      (v'.ownBlock = v.ownBlock ∨ v'.ownBlock = some w.heap.size) := by
  rcases A with _ | ad
  · have hm : m = 0 := by
      rcases Nat.eq_zero_or_pos m with h0 | h0
      · exact h0
      · obtain ⟨ad, h, _⟩ := hr.2 h0
        cases h
    subst hm
    have hn : news = [] := List.eq_nil_of_length_eq_zero (by simpa using hr.1)
    subst hn
    exact ⟨v, w, run_append_of_nil w base t ty e i size ht hi v n xs hown c, by simpa using hown, World.grownBy.refl w _, .inl rfl⟩
  · have hcells : ∀ j u, news[j]? = some u → w.cell? (ad.add j) = some u := by
      intro j u hu
      rcases Nat.eq_zero_or_pos m with h0 | h0
      · subst h0
        have hn : news = [] := List.eq_nil_of_length_eq_zero (by simpa using hr.1)
        subst hn
        simp at hu
      · obtain ⟨ad', h, _, hc⟩ := hr.2 h0
        injection h with h
        subst h
        exact hc j u hu
    obtain ⟨v', w', hrun, h2, h3, _, h5⟩ := run_append_own_at (P := P) w base t ty e i z size bytes ht hi hz hsize hby hzs hsz v n xs hown ad m c news hr.1 hcells h1 h63 hbytes hbase
    exact ⟨v', w', hrun, h2, h3, h5⟩

theorem wp_append_any {o : Oper} {a : Act} {K : Act → World → Prop} {Q : Exit → Act → World → Prop} (s x : Operand) (t : TypeId)
    (ho : o.op = .call { callee := .builtin .append, args := #[s, x], argTypes := #[t, t] })
    (base : Nat) (e : TypeId) (i : TypeInfo) (z : Value) (size bytes : Nat) (ht : P.underlying t = some (.slice e)) (hi : P.info? e = some i) (hz : i.zero = some z)
    (hsize : i.size = size) (hby : i.bytes = bytes) (hzs : z.cells.size = size) (hsz : 0 < size)
    (v : Value) (n : Nat) (xs : List Value) (hs : a.eval s = v) (hown : w.ownsRow base e size v n xs)
    (B : Nat) (A : Option Addr) (m c : Nat) (news : List Value) (hx : a.eval x = .slice A m c) (hr : Reads w B size A m news) (h1 : ∀ u ∈ news, u.oneCell' = true)
    (h63 : n + m ≤ maxLen) (hbytes : (n + m) * bytes ≤ 140737488355328) (hbase : base ≤ w.heap.size)
    (h : ∀ v' w', w'.ownsRow base e size v' (n + m) (xs ++ news) → w.grownBy w' v.ownBlock → (v'.ownBlock = v.ownBlock ∨ v'.ownBlock = some w.heap.size) → K (a.put o.dst v') w') : o.wp P a w K Q := by
  obtain ⟨v', w', hrun, h2, h3, h4⟩ := run_append_any (P := P) w base t o.type e i z size bytes ht hi hz hsize hby hzs hsz v n xs hown B A m c news hr h1 h63 hbytes hbase
  unfold Oper.wp execOp
  simp only [ho, resolve, invoke, builtin, Sem.run_bind, Sem.run_pure, Result.andThen_ok, List.map_toArray, List.map_cons, List.map_nil, hs, hx, hrun]
  exact h v' w' h2 h3 h4

theorem wpList_append_any {ops : Array Oper} {rest : List Oper} {o : Oper} {a : Act} {Q : Exit → Act → World → Prop} (hgd : o.guard = none) (s x : Operand) (t : TypeId)
    (ho : o.op = .call { callee := .builtin .append, args := #[s, x], argTypes := #[t, t] })
    (base : Nat) (e : TypeId) (i : TypeInfo) (z : Value) (size bytes : Nat) (ht : P.underlying t = some (.slice e)) (hi : P.info? e = some i) (hz : i.zero = some z)
    (hsize : i.size = size) (hby : i.bytes = bytes) (hzs : z.cells.size = size) (hsz : 0 < size)
    (v : Value) (n : Nat) (xs : List Value) (hs : a.eval s = v) (hown : w.ownsRow base e size v n xs)
    (B : Nat) (A : Option Addr) (m c : Nat) (news : List Value) (hx : a.eval x = .slice A m c) (hr : Reads w B size A m news) (h1 : ∀ u ∈ news, u.oneCell' = true)
    (h63 : n + m ≤ maxLen) (hbytes : (n + m) * bytes ≤ 140737488355328) (hbase : base ≤ w.heap.size)
    (h : ∀ v' w', w'.ownsRow base e size v' (n + m) (xs ++ news) → w.grownBy w' v.ownBlock → (v'.ownBlock = v.ownBlock ∨ v'.ownBlock = some w.heap.size) → wpList P ops Q rest (a.put o.dst v') w') : wpList P ops Q (o :: rest) a w :=
  wpList_plain hgd fun _ hK => wp_append_any w s x t ho base e i z size bytes ht hi hz hsize hby hzs hsz v n xs hs hown B A m c news hx hr h1 h63 hbytes hbase fun v' w' h2 h3 h4 => hK _ _ (h v' w' h2 h3 h4)

theorem step_append_any {ops : Array Oper} {o : Oper} {a : Act} {K : Act → World → Prop} {Q : Exit → Act → World → Prop} {E : Prop} (hgd : o.guard = none) (s x : Operand) (t : TypeId)
    (ho : o.op = .call { callee := .builtin .append, args := #[s, x], argTypes := #[t, t] })
    (base : Nat) (e : TypeId) (i : TypeInfo) (z : Value) (size bytes : Nat) (ht : P.underlying t = some (.slice e)) (hi : P.info? e = some i) (hz : i.zero = some z)
    (hsize : i.size = size) (hby : i.bytes = bytes) (hzs : z.cells.size = size) (hsz : 0 < size)
    (v : Value) (n : Nat) (xs : List Value) (hs : a.eval s = v) (hown : w.ownsRow base e size v n xs)
    (B : Nat) (A : Option Addr) (m c : Nat) (news : List Value) (hx : a.eval x = .slice A m c) (hr : Reads w B size A m news) (h1 : ∀ u ∈ news, u.oneCell' = true)
    (h63 : n + m ≤ maxLen) (hbytes : (n + m) * bytes ≤ 140737488355328) (hbase : base ≤ w.heap.size)
    (h : ∀ v' w', w'.ownsRow base e size v' (n + m) (xs ++ news) → w.grownBy w' v.ownBlock → (v'.ownBlock = v.ownBlock ∨ v'.ownBlock = some w.heap.size) → K (a.put o.dst v') w') :
    if Region.wanted o (yielded ops a.tmps) = true then Oper.wp P o a w K Q else E := by
  have hw : Region.wanted o (yielded ops a.tmps) = true := by simp [Region.wanted, hgd]
  rw [if_pos hw]
  exact wp_append_any w s x t ho base e i z size bytes ht hi hz hsize hby hzs hsz v n xs hs hown B A m c news hx hr h1 h63 hbytes hbase h
end
theorem ne_own {g n cap k : Nat} (h : g ≠ k) : some k ≠ (Value.slice (some ⟨g, 0, none⟩) n cap).ownBlock := by
  simp [Value.ownBlock]; exact fun e => h e.symm
theorem own_base {g n cap B : Nat} (h : B ≤ g) : ∀ k, (Value.slice (some ⟨g, 0, none⟩) n cap).ownBlock = some k → B ≤ k := by
  intro k hk; simp [Value.ownBlock] at hk; omega
theorem own_below {w w' : World} {base : Nat} {e : TypeId} {size n B : Nat} {v : Value} {xs : List Value} (h : w.ownsRow base e size v n xs) (hb : Below B w w') (hB : w.heap.size ≤ B) : w'.ownsRow base e size v n xs := by
  refine ⟨h.1, ?_⟩
  rcases h.2 with hn | ⟨g, cap, cur, rfl, hb', hgg, rest⟩
  · exact .inl hn
  · refine .inr ⟨g, cap, cur, rfl, hb', ?_, rest⟩
    have hg : g < w.heap.size := (Array.getElem?_eq_some_iff.1 hgg).1
    rw [hb.block g (by omega)]; exact hgg
theorem own_keeps {w w' : World} {base : Nat} {e : TypeId} {size n : Nat} {v : Value} {xs : List Value} (h : w.ownsRow base e size v n xs) (hb : Keeps w w') : w'.ownsRow base e size v n xs := own_below h hb (Nat.le_refl _)
/-- The worlds in which nothing that is in w has turned. -/
structure After (w : World) where
  val : World
  ok : Keeps w val
instance (w : World) : Nonempty (After w) := ⟨⟨w, Keeps.refl w⟩⟩
theorem wp_region_after {P : Program} {id : Nat} {Q : Exit → Act → World → Prop} {a : Act} {w : World} {l : List Oper} (hm : P.follows .mixedOrders = true) (hB : Region.lexB .any l.toArray = true)
    (h : wpQuiet P l.toArray (fun w' => ∃ X : After w, w' = X.val) (fun a' => ∀ w', (∃ X : After w, w' = X.val) → Q .normal a' w') l a) : (Code.region id l.toArray true).wp P Q a w :=
  wp_region_quiet (C := fun w' => ∃ X : After w, w' = X.val) hm hB ⟨⟨w.drew, (Keeps.refl w).drew⟩, rfl⟩ (by simpa using h)
theorem after_call {P : Program} {f : FuncId} {args : Array Value} {w : World} {X : After w} {v : Value}
    (h : Calls P f args X.val fun e w' => e = .returned v ∧ Keeps X.val w') : Calls P f args X.val fun e w'' => e = .returned v ∧ ∃ Y : After w, w'' = Y.val :=
  h.mono fun _ w' ⟨he, hk⟩ => ⟨he, ⟨w', X.ok.trans hk⟩, rfl⟩
theorem After.cell {w : World} {p : Addr} {v : Value} (h : w.cell? p = some v) (hp : p.block < w.heap.size) (X : After w) : X.val.cell? p = some v := (Below.cell X.ok hp).trans h
theorem cell_of_blk {w : World} {g : Nat} {t : TypeId} {cs : Array Value} (h : Blk w g t cs) (i : Nat) {v : Value} (hv : cs[i]? = some v) : w.cell? ⟨g, i, none⟩ = some v := (h.cell i).trans hv
theorem cell_keep {w w' : World} {p : Addr} {v : Value} (h : w.cell? p = some v) (hk : Keeps w w') : w'.cell? p = some v := (Below.cell hk (World.block_lt_of_cell? w _ h)).trans h
def BoolPost (x : Bool) (w : World) (e : Ending) (w' : World) : Prop := e = .returned (.bool x) ∧ Keeps w w'
theorem bool_post {x y : Bool} {w w' : World} (h : x = y) (hk : Keeps w w') : BoolPost x w (.returned (.bool y)) w' := ⟨by rw [h], hk⟩
/-- The slice with address A holds the numbers l, of kind ik, in a block below B. -/
def Nums (ik : IntKind) (w : World) (B : Nat) (A : Option Addr) (l : List Int) : Prop :=
  ∀ (k : Nat) (x : Int), l[k]? = some x → ∃ b off, A = some ⟨b, off, none⟩ ∧ b < B ∧ w.cell? ⟨b, off + k, none⟩ = some (.int ik x)
section
variable {ik : IntKind} {w w' : World} {B B' : Nat} {A : Option Addr} {l : List Int}
theorem Nums.nil (A : Option Addr) : Nums ik w B A [] := fun k x h => by simp at h
theorem Nums.below (h : Nums ik w B A l) (hb : Below B w w') : Nums ik w' B A l := fun k o hk => by
  obtain ⟨b, off, e, hlt, h0⟩ := h k o hk
  exact ⟨b, off, e, hlt, (hb.cell (p := ⟨b, _, none⟩) hlt).trans h0⟩
theorem Nums.more (h : Nums ik w B A l) (hb : B ≤ B') : Nums ik w B' A l := fun k o hk => by
  obtain ⟨b, off, e, hlt, h0⟩ := h k o hk
  exact ⟨b, off, e, by omega, h0⟩
theorem Nums.keep (h : Nums ik w w.heap.size A l) (hk : Keeps w w') : Nums ik w' w'.heap.size A l := (Nums.below h hk).more (Below.size hk)
def intCells (ik : IntKind) (l : List Int) : List Value := l.map (.int ik)
theorem intCells_at {k : Nat} {x : Int} (h : l[k]? = some x) : (intCells ik l)[k]? = some (.int ik x) := by simp [intCells, h]
theorem Nums.of_blk {g : Nat} {t : TypeId} {cs : Array Value} (h : Blk w g t cs) (hcs : cs.toList = intCells ik l) (hB : g < B) : Nums ik w B (some ⟨g, 0, none⟩) l := fun k x hx => by
  have h0 := intCells_at (ik := ik) hx
  rw [← hcs] at h0
  exact ⟨g, 0, rfl, hB, by rw [Nat.zero_add]; exact (h.cell _).trans (by simpa using h0)⟩
theorem Nums.of_own {base n c : Nat} {e : TypeId} (h : w.ownsRow base e 1 (.slice A n c) n (intCells ik l)) (hn : n = l.length) : Nums ik w w.heap.size A l := fun k x hx => by
  have hk : k < l.length := (List.getElem?_eq_some_iff.1 hx).1
  obtain ⟨g, cap, hv, _, hlt⟩ := h.form (by omega)
  have hA : A = some ⟨g, 0, none⟩ := by injection hv
  subst hA
  have hc := h.cells (g := g) rfl _ _ (intCells_at (ik := ik) hx)
  have fix : (⟨g, 0, none⟩ : Addr).add k = ⟨g, 0 + k, none⟩ := by unfold Addr.add; split <;> simp_all
  rw [fix] at hc
  exact ⟨g, 0, rfl, hlt, hc⟩
theorem Nums.drop {b off : Nat} (h : Nums ik w B (some ⟨b, off, none⟩) l) (k : Nat) : Nums ik w B (some ⟨b, off + k, none⟩) (l.drop k) := fun i x hx => by
  rw [List.getElem?_drop] at hx
  obtain ⟨b', off', e, hb, hc⟩ := h (k + i) x hx
  cases e
  exact ⟨b, off + k, rfl, hb, by rw [Nat.add_assoc]; exact hc⟩
theorem Nums.reads (h : Nums ik w B A l) : Reads w B 1 A l.length (intCells ik l) := by
  refine ⟨by simp [intCells], fun hn => ?_⟩
  obtain ⟨b, off, rfl, hb, -⟩ := h 0 l[0] (List.getElem?_eq_getElem hn)
  refine ⟨_, rfl, hb, fun j u hu => ?_⟩
  have hj : j < l.length := by simpa [intCells] using (List.getElem?_eq_some_iff.1 hu).1
  have hok := List.getElem?_eq_getElem hj
  obtain ⟨b', off', e, -, c0⟩ := h j _ hok
  cases e
  have := intCells_at (ik := ik) hok
  rw [hu] at this
  cases this
  have fix : (⟨b, off, none⟩ : Addr).add j = ⟨b, off + j, none⟩ := by unfold Addr.add; split <;> simp_all
  rw [fix]; exact c0
theorem intCells_one : ∀ u ∈ intCells ik l, u.oneCell' = true := by
  intro u hu
  simp only [intCells, List.mem_map] at hu
  obtain ⟨x, _, rfl⟩ := hu
  rfl
theorem intCells_append {m : List Int} : intCells ik (l ++ m) = intCells ik l ++ intCells ik m := by simp [intCells]
end
theorem ret_int {k : IntKind} {a b : Int} (h : a = b) : Ending.returned (.int k a) = .returned (.int k b) := by rw [h]
theorem own_lt {w : World} {base : Nat} {e : TypeId} {size n g : Nat} {v : Value} {xs : List Value} (h : w.ownsRow base e size v n xs) (hg : v.ownBlock = some g) : base ≤ g ∧ g < w.heap.size := by
  rcases h.2 with ⟨rfl, rfl⟩ | ⟨g', cap, cur, rfl, hb, hh, _⟩
  · simp [Value.ownBlock] at hg
  · simp [Value.ownBlock] at hg; subst hg; exact ⟨hb, (Array.getElem?_eq_some_iff.1 hh).1⟩
theorem own_ne {w : World} {base : Nat} {e : TypeId} {size n k : Nat} {v : Value} {xs : List Value} (h : w.ownsRow base e size v n xs) (hk : k < base) : some k ≠ v.ownBlock := by
  intro e
  have := own_lt h e.symm
  omega
theorem some_ne {a b : Nat} (h : a ≠ b) : some a ≠ some b := fun e => h (Option.some.inj e)
theorem own_slice {w : World} {base : Nat} {e : TypeId} {size n : Nat} {v : Value} {xs : List Value} (h : w.ownsRow base e size v n xs) : ∃ A c, v = .slice A n c := by
  rcases h.2 with ⟨rfl, rfl⟩ | ⟨g', cap, cur, rfl, hb, hh, _⟩
  · exact ⟨none, 0, rfl⟩
  · exact ⟨_, _, rfl⟩
theorem grown_keeps {a b c : World} {row : Option Nat} (h : Keeps a b) (hg : b.grownBy c row) (hr : ∀ k, row = some k → a.heap.size ≤ k) : Keeps a c := Below.grown h hg h.size hr
/-- A kind of elements of a slice: their type, the slice's type, how many cells and bytes each has, and the cells. -/
structure RowTy (α : Type) where
  T : TypeId
  S : TypeId
  k : Nat
  by' : Nat
  enc : α → List Value
structure RowOk (P : Program) {α : Type} (R : RowTy α) : Prop where
  len : ∀ x, (R.enc x).length = R.k
  one : ∀ x, ∀ u ∈ R.enc x, u.oneCell' = true
  und : P.underlying R.S = some (.slice R.T)
  info : ∃ i z, P.info? R.T = some i ∧ i.zero = some z ∧ i.size = R.k ∧ i.bytes = R.by' ∧ z.cells.size = R.k
  pos : 0 < R.k
  few : R.by' ≤ 1000
theorem info_of {P : Program} {T : TypeId} {z : Value} {k by' : Nat} (h : (P.info? T).map (fun i => (i.zero, i.size, i.bytes)) = some (some z, k, by')) (hz : z.cells.size = k) : ∃ i z, P.info? T = some i ∧ i.zero = some z ∧ i.size = k ∧ i.bytes = by' ∧ z.cells.size = k := by
  cases hi : P.info? T with
  | none => rw [hi] at h; cases h
  | some i =>
    rw [hi] at h
    simp only [Option.map_some, Option.some.injEq, Prod.mk.injEq] at h
    exact ⟨i, z, rfl, h.1, h.2.1, h.2.2, hz⟩
section
variable {α : Type} (R : RowTy α)
def recCells (l : List α) : List Value := l.flatMap R.enc
theorem recCells_nil : recCells R [] = [] := rfl
theorem recCells_cons (x : α) (l : List α) : recCells R (x :: l) = R.enc x ++ recCells R l := rfl
theorem recCells_append (l m : List α) : recCells R (l ++ m) = recCells R l ++ recCells R m := by simp [recCells]
theorem recCells_one (x : α) : recCells R [x] = R.enc x := by simp [recCells]
/-- The slice with address A holds the elements l, in a block below B. -/
def RecIn (w : World) (B : Nat) (A : Option Addr) (l : List α) : Prop :=
  ∀ (j : Nat) (x : α), l[j]? = some x → ∃ b off, A = some ⟨b, off, none⟩ ∧ b < B ∧ ∀ i u, (R.enc x)[i]? = some u → w.cell? ⟨b, off + j * R.k + i, none⟩ = some u
end
section
variable {α : Type} {R : RowTy α}
theorem recCells_length (hl : ∀ x, (R.enc x).length = R.k) (l : List α) : (recCells R l).length = l.length * R.k := by
  induction l with
  | nil => simp [recCells]
  | cons x l ih => rw [recCells_cons, List.length_append, hl, ih, List.length_cons, Nat.add_mul, Nat.one_mul, Nat.add_comm]
theorem recCells_at (hl : ∀ x, (R.enc x).length = R.k) : ∀ (l : List α) (j : Nat) (x : α) (i : Nat) (u : Value), l[j]? = some x → (R.enc x)[i]? = some u → (recCells R l)[j * R.k + i]? = some u
  | [], _, _, _, _, h, _ => by simp at h
  | y :: l, 0, x, i, u, h, hu => by
    simp at h; subst h
    have hi := (List.getElem?_eq_some_iff.1 hu).1
    rw [recCells_cons, Nat.zero_mul, Nat.zero_add, List.getElem?_append_left hi]; exact hu
  | y :: l, j + 1, x, i, u, h, hu => by
    have := recCells_at hl l j x i u (by simpa using h) hu
    rw [recCells_cons, Nat.add_mul, Nat.one_mul, List.getElem?_append_right (by rw [hl]; omega), hl]
    rw [← this]; congr 1; omega
theorem recCells_inv (hl : ∀ x, (R.enc x).length = R.k) (hk : 0 < R.k) {l : List α} {p : Nat} {u : Value} (h : (recCells R l)[p]? = some u) : ∃ j i x, p = j * R.k + i ∧ i < R.k ∧ l[j]? = some x ∧ (R.enc x)[i]? = some u := by
  have hp := (List.getElem?_eq_some_iff.1 h).1
  rw [recCells_length hl] at hp
  have h1 := Nat.div_add_mod p R.k
  have h2 := Nat.mod_lt p hk
  have h3 : p / R.k < l.length := Nat.div_lt_of_lt_mul (by rw [Nat.mul_comm]; exact hp)
  have e : p = (p / R.k) * R.k + p % R.k := by rw [Nat.mul_comm]; exact h1.symm
  have hx := List.getElem?_eq_getElem h3
  have hi : p % R.k < (R.enc l[p / R.k]).length := by rw [hl]; exact h2
  have hu := List.getElem?_eq_getElem hi
  have := recCells_at hl l _ _ _ _ hx hu
  rw [← e, h] at this
  exact ⟨p / R.k, p % R.k, l[p / R.k], e, h2, hx, by rw [hu]; exact this.symm⟩
theorem recCells_set (hl : ∀ x, (R.enc x).length = R.k) : ∀ (l : List α) (j : Nat) (x x' : α) (i : Nat) (u : Value), l[j]? = some x → i < R.k → R.enc x' = (R.enc x).set i u → recCells R (l.set j x') = (recCells R l).set (j * R.k + i) u
  | [], _, _, _, _, _, h, _, _ => by simp at h
  | y :: l, 0, x, x', i, u, h, hi, he => by
    simp at h; subst h
    rw [List.set_cons_zero, recCells_cons, recCells_cons, he, Nat.zero_mul, Nat.zero_add, List.set_append_left _ _ (by rw [hl]; exact hi)]
  | y :: l, j + 1, x, x', i, u, h, hi, he => by
    have := recCells_set hl l j x x' i u (by simpa using h) hi he
    rw [List.set_cons_succ, recCells_cons, recCells_cons, this, Nat.add_mul, Nat.one_mul, List.set_append_right _ _ (by rw [hl]; omega), hl]
    congr 2; omega
variable {w w' : World} {B B' : Nat} {A : Option Addr} {l : List α}
theorem RecIn.nil (A : Option Addr) : RecIn R w B A [] := fun j x h => by simp at h
theorem RecIn.below (h : RecIn R w B A l) (hb : Below B w w') : RecIn R w' B A l := fun j x hj => by
  obtain ⟨b, off, e, hlt, hc⟩ := h j x hj
  exact ⟨b, off, e, hlt, fun i u hu => (hb.cell (p := ⟨b, _, none⟩) hlt).trans (hc i u hu)⟩
theorem RecIn.more (h : RecIn R w B A l) (hb : B ≤ B') : RecIn R w B' A l := fun j x hj => by
  obtain ⟨b, off, e, hlt, hc⟩ := h j x hj
  exact ⟨b, off, e, by omega, hc⟩
theorem RecIn.keep (h : RecIn R w w.heap.size A l) (hk : Keeps w w') : RecIn R w' w'.heap.size A l := (RecIn.below h hk).more (Below.size hk)
theorem RecIn.grown {row : Option Nat} {g off : Nat} (h : RecIn R w w.heap.size (some ⟨g, off, none⟩) l) (hg : w.grownBy w' row) (hne : row ≠ some g) : RecIn R w' w'.heap.size (some ⟨g, off, none⟩) l := fun j x hj => by
  obtain ⟨b, off', e, hlt, hc⟩ := h j x hj
  cases e
  have hb : ∀ q, w'.cell? ⟨g, q, none⟩ = w.cell? ⟨g, q, none⟩ := fun q => by
    have hbk := hg.block g hlt (fun e => hne e.symm)
    simp only [World.cell?, hbk]
  exact ⟨g, off, rfl, Nat.lt_of_lt_of_le hlt hg.size, fun i u hu => (hb _).trans (hc i u hu)⟩
theorem RecIn.take (h : RecIn R w B A l) (n : Nat) : RecIn R w B A (l.take n) := fun j x hj => h j x (by
  rw [List.getElem?_take] at hj; split at hj
  · exact hj
  · cases hj)
theorem RecIn.drop {b off : Nat} (h : RecIn R w B (some ⟨b, off, none⟩) l) (n : Nat) : RecIn R w B (some ⟨b, off + n * R.k, none⟩) (l.drop n) := fun j x hj => by
  rw [List.getElem?_drop] at hj
  obtain ⟨b', off', e, hb, hc⟩ := h (n + j) x hj
  cases e
  refine ⟨b, off + n * R.k, rfl, hb, fun i u hu => ?_⟩
  have := hc i u hu
  rw [Nat.add_mul, ← Nat.add_assoc] at this
  exact this
theorem RecIn.of_blk {g : Nat} {t : TypeId} {cs : Array Value} (hl : ∀ x, (R.enc x).length = R.k) (h : Blk w g t cs) (hcs : cs.toList = recCells R l) (hB : g < B) : RecIn R w B (some ⟨g, 0, none⟩) l := fun j x hx =>
  ⟨g, 0, rfl, hB, fun i u hu => by
    have h0 := recCells_at hl l j x i u hx hu
    rw [← hcs] at h0
    rw [Nat.zero_add]; exact (h.cell _).trans (by simpa using h0)⟩
theorem RecIn.of_own {P : Program} {base n c : Nat} {e : TypeId} (ok : RowOk P R) (h : w.ownsRow base e R.k (.slice A n c) n (recCells R l)) (hn : n = l.length) : RecIn R w w.heap.size A l := fun j x hx => by
  have hj : j < l.length := (List.getElem?_eq_some_iff.1 hx).1
  obtain ⟨g, cap, hv, _, hlt⟩ := h.form (by omega)
  have hA : A = some ⟨g, 0, none⟩ := by injection hv
  subst hA
  refine ⟨g, 0, rfl, hlt, fun i u hu => ?_⟩
  have hc := h.cells (g := g) rfl _ _ (recCells_at ok.len l j x i u hx hu)
  have fix : ∀ q, (⟨g, 0, none⟩ : Addr).add q = ⟨g, 0 + q, none⟩ := fun q => by unfold Addr.add; split <;> simp_all
  rw [fix, ← Nat.add_assoc] at hc
  exact hc
theorem RecIn.reads {P : Program} (ok : RowOk P R) (h : RecIn R w B A l) : Reads w B R.k A l.length (recCells R l) := by
  refine ⟨recCells_length ok.len l, fun hn => ?_⟩
  obtain ⟨b, off, rfl, hb, -⟩ := h 0 l[0] (List.getElem?_eq_getElem hn)
  refine ⟨_, rfl, hb, fun p u hu => ?_⟩
  obtain ⟨j, i, x, rfl, hi, hx, hu'⟩ := recCells_inv ok.len ok.pos hu
  obtain ⟨b', off', e, -, hc⟩ := h j x hx
  cases e
  have fix : ∀ q, (⟨b, off, none⟩ : Addr).add q = ⟨b, off + q, none⟩ := fun q => by unfold Addr.add; split <;> simp_all
  rw [fix, ← Nat.add_assoc]; exact hc i u hu'
theorem recCells_oneCell {P : Program} (ok : RowOk P R) (l : List α) : ∀ u ∈ recCells R l, u.oneCell' = true := by
  intro u hu
  simp only [recCells, List.mem_flatMap] at hu
  obtain ⟨x, _, hu⟩ := hu
  exact ok.one x u hu
theorem RecIn.lit {P : Program} (ok : RowOk P R) (w : World) (l : List α) (cs : Array Value) (h : cs.toList = recCells R l) : RecIn R (w.alloc (.cells cs R.T)) (w.alloc (.cells cs R.T)).heap.size (some ⟨w.heap.size, 0, none⟩) l := RecIn.of_blk ok.len (Blk.new w R.T cs) h (by simp)
/-- A list of the call's own. -/
def OwnR (R : RowTy α) (w0 w : World) (v : Value) (l : List α) : Prop := w.ownsRow w0.heap.size R.T R.k v l.length (recCells R l) ∧ Keeps w0 w
theorem OwnR.nil (w : World) : OwnR R w w (.slice none 0 0) [] := ⟨World.ownsRow_nil _ _ _ _, Keeps.refl w⟩
theorem OwnR.lit {w0 w : World} (h : Keeps w0 w) : OwnR R w0 (w.alloc (.cells #[] R.T)) (.slice (some ⟨w.heap.size, 0, none⟩) 0 0) [] :=
  ⟨⟨by simp [recCells], .inr ⟨w.heap.size, 0, #[], rfl, h.size, heap_alloc_new w _, Nat.le_refl _, Nat.zero_le _, by simp, by simp [recCells]⟩⟩, h.alloc _⟩
theorem OwnR.keep {w0 w w' : World} {v : Value} {l : List α} (h : OwnR R w0 w v l) (hk : Keeps w w') : OwnR R w0 w' v l := ⟨own_keeps h.1 hk, h.2.trans hk⟩
theorem OwnR.recs {P : Program} (ok : RowOk P R) {w0 w : World} {A : Option Addr} {n c : Nat} {l : List α} (h : OwnR R w0 w (.slice A n c) l) : RecIn R w w.heap.size A l ∧ n = l.length := by
  have hn : n = l.length := by
    rcases h.1.2 with ⟨e, h0⟩ | ⟨g, cap, cur, e, _⟩
    · injection e with e1 e2 e3; omega
    · injection e
  subst hn
  exact ⟨RecIn.of_own ok h.1 rfl, rfl⟩
theorem OwnR.form {w0 w : World} {v : Value} {l : List α} (h : OwnR R w0 w v l) (hn : 0 < l.length) : ∃ g cap, v = .slice (some ⟨g, 0, none⟩) l.length cap ∧ w0.heap.size ≤ g ∧ g < w.heap.size := by
  obtain ⟨g, cap, hv, h1, h2⟩ := h.1.form hn
  exact ⟨g, cap, hv, h1, h2⟩
theorem OwnR.frozen {w0 w : World} {g n cap : Nat} {l : List α} (h : OwnR R w0 w (.slice (some ⟨g, 0, none⟩) n cap) l) (i : Nat) : w.frozen? ⟨g, i, none⟩ = false := by
  have hn : n = l.length := by
    rcases h.1.2 with ⟨e, h0⟩ | ⟨g', cap', cur, e, _⟩
    · injection e with e1 e2 e3; cases e1
    · injection e
  subst hn
  exact h.1.frozenAt i
/-- One cell of an element of the list stored. -/
theorem OwnR.put {w0 w : World} {g n cap : Nat} {l : List α} (hl : ∀ x, (R.enc x).length = R.k) (h : OwnR R w0 w (.slice (some ⟨g, 0, none⟩) n cap) l) {j i : Nat} {x x' : α} {u : Value} (hx : l[j]? = some x) (hi : i < R.k) (he : R.enc x' = (R.enc x).set i u) :
    OwnR R w0 (w.setCell ⟨g, j * R.k + i, none⟩ u) (.slice (some ⟨g, 0, none⟩) n cap) (l.set j x') := by
  have hn : n = l.length := by
    rcases h.1.2 with ⟨e, h0⟩ | ⟨g', cap', cur, e, _⟩
    · injection e with e1 e2 e3; cases e1
    · injection e
  subst hn
  refine ⟨?_, h.2.setCell (h.1.lt g rfl).1 u⟩
  rw [List.length_set, recCells_set hl l j x x' i u hx hi he]
  exact (h.1.stored (j * R.k + i) u).1
section
variable {P : Program} (ok : RowOk P R)
include ok
theorem wpList_appR {w0 w : World} {ops : Array Oper} {rest : List Oper} {o : Oper} {a : Act} {Q : Exit → Act → World → Prop} (hgd : o.guard = none) (s x : Operand)
    (ho : o.op = .call { callee := .builtin .append, args := #[s, x], argTypes := #[R.S, R.S] })
    (v : Value) (l : List α) (hs : a.eval s = v) (hown : OwnR R w0 w v l)
    (A : Option Addr) (m c : Nat) (l2 : List α) (hx : a.eval x = .slice A m c) (hr : RecIn R w w.heap.size A l2) (hm : Hid (m = l2.length)) (hle : Hid (l.length + l2.length ≤ 1000000))
    (h : ∀ A' n' c' w', OwnR R w0 w' (.slice A' n' c') (l ++ l2) → w.grownBy w' v.ownBlock → wpList P ops Q rest (a.put o.dst (.slice A' n' c')) w') : wpList P ops Q (o :: rest) a w := by
  obtain ⟨i0, z, hi0, hz0, hz1, hz2, hz3⟩ := ok.info
  have hle' := hle.out
  have hm' := hm.out
  subst hm'
  have hby : (l.length + l2.length) * R.by' ≤ 1000000 * 1000 := Nat.mul_le_mul hle' ok.few
  refine wpList_append_any w hgd s x R.S ho w0.heap.size R.T i0 z R.k R.by' ok.und hi0 hz0 hz1 hz2 hz3 ok.pos v l.length (recCells R l) hs hown.1 w.heap.size A l2.length c (recCells R l2) hx (hr.reads ok) (recCells_oneCell ok l2) (by unfold maxLen; omega) (by omega) hown.2.size ?_
  intro v' w' h1 h2 _
  obtain ⟨A', c', rfl⟩ := own_slice h1
  refine h A' _ c' w' ⟨?_, grown_keeps hown.2 h2 (fun k hk => (own_lt hown.1 hk).1)⟩ h2
  rw [← List.length_append, ← recCells_append] at h1
  rw [← List.length_append]
  exact h1
theorem step_appR {w0 w : World} {ops : Array Oper} {o : Oper} {a : Act} {K : Act → World → Prop} {Q : Exit → Act → World → Prop} {E : Prop} (hgd : o.guard = none) (s x : Operand)
    (ho : o.op = .call { callee := .builtin .append, args := #[s, x], argTypes := #[R.S, R.S] })
    (v : Value) (l : List α) (hs : a.eval s = v) (hown : OwnR R w0 w v l)
    (A : Option Addr) (m c : Nat) (l2 : List α) (hx : a.eval x = .slice A m c) (hr : RecIn R w w.heap.size A l2) (hm : Hid (m = l2.length)) (hle : Hid (l.length + l2.length ≤ 1000000))
    (h : ∀ A' n' c' w', OwnR R w0 w' (.slice A' n' c') (l ++ l2) → w.grownBy w' v.ownBlock → K (a.put o.dst (.slice A' n' c')) w') : if Region.wanted o (yielded ops a.tmps) = true then Oper.wp P o a w K Q else E := by
  obtain ⟨i0, z, hi0, hz0, hz1, hz2, hz3⟩ := ok.info
  have hle' := hle.out
  have hm' := hm.out
  subst hm'
  have hby : (l.length + l2.length) * R.by' ≤ 1000000 * 1000 := Nat.mul_le_mul hle' ok.few
  refine step_append_any w hgd s x R.S ho w0.heap.size R.T i0 z R.k R.by' ok.und hi0 hz0 hz1 hz2 hz3 ok.pos v l.length (recCells R l) hs hown.1 w.heap.size A l2.length c (recCells R l2) hx (hr.reads ok) (recCells_oneCell ok l2) (by unfold maxLen; omega) (by omega) hown.2.size ?_
  intro v' w' h1 h2 _
  obtain ⟨A', c', rfl⟩ := own_slice h1
  refine h A' _ c' w' ⟨?_, grown_keeps hown.2 h2 (fun k hk => (own_lt hown.1 hk).1)⟩ h2
  rw [← List.length_append, ← recCells_append] at h1
  rw [← List.length_append]
  exact h1
/-- 'make' of as many zero values. -/
theorem OwnR.made {w0 w w' : World} {n : Nat} {v : Value} {z : Value} {x0 : α} (hw : Keeps w0 w) (hz : R.enc x0 = z.cells.toList) (h : w'.ownsRow w0.heap.size R.T R.k v n (madeCells z.cells (n * R.k)).toList) (hg : w.grownBy w' none) : OwnR R w0 w' v (List.replicate n x0) := by
  refine ⟨?_, grown_keeps hw hg (fun k hk => by cases hk)⟩
  rw [List.length_replicate]
  have e : (madeCells z.cells (n * R.k)).toList = recCells R (List.replicate n x0) := by
    have hzk : z.cells.size = R.k := by have := congrArg List.length hz; rw [ok.len] at this; simpa using this.symm
    refine List.ext_getElem? fun p => ?_
    by_cases hp : p < n * R.k
    · have h1 := Nat.div_add_mod p R.k
      have h2 := Nat.mod_lt p ok.pos
      have h3 : p / R.k < n := Nat.div_lt_of_lt_mul (by rw [Nat.mul_comm]; exact hp)
      have hi : p % R.k < (R.enc x0).length := by rw [ok.len]; exact h2
      have := recCells_at (R := R) ok.len (List.replicate n x0) (p / R.k) x0 (p % R.k) _ (by rw [List.getElem?_replicate, if_pos h3]) (List.getElem?_eq_getElem hi)
      rw [Nat.mul_comm, h1] at this
      rw [this]
      have hi2 : p % R.k < z.cells.size := by rw [hzk]; exact h2
      simp only [madeCells, Array.toList_map, Array.toList_range, List.getElem?_map, hzk]
      rw [List.getElem?_range hp]
      simp only [Option.map_some, hz, Array.getElem_toList]
      simp [hi2]
    · rw [List.getElem?_eq_none (by simp [madeCells]; omega), List.getElem?_eq_none (by rw [recCells_length ok.len, List.length_replicate]; omega)]
  rw [← e]; exact h
end
end
end
section
open Go.ChangeShapes Go.WideShapes Go.ChangeAt Go.RowKit
set_option linter.unusedSimpArgs false
set_option linter.unusedVariables false
/-- Whole numbers. -/
abbrev intR : RowTy Int := { T := 3, S := 41, k := 1, by' := 8, enc := fun x => [.int .i64 x] }
theorem intOk : RowOk Tryz.prog intR := ⟨fun _ => rfl, fun x u hu => by simp at hu; subst hu; rfl, Tryz.underlying41, info_of (z := .int .i64 0) (by kernel_rfl) rfl, by decide, by decide⟩
/-- Texts. -/
abbrev strR : RowTy ByteArray := { T := 9, S := 24, k := 1, by' := 16, enc := fun x => [.string x] }
theorem strOk : RowOk Tryz.prog strR := ⟨fun _ => rfl, fun x u hu => by simp at hu; subst hu; rfl, Tryz.underlying24, info_of (z := .string ByteArray.empty) (by kernel_rfl) rfl, by decide, by decide⟩
/-- A scanner. -/
structure Scn where
  op : Int
  off : Int
  er : Int
abbrev scR : RowTy Scn := { T := 72, S := 22, k := 3, by' := 24, enc := fun x => [.int .i64 x.op, .int .i64 x.off, .int .i64 x.er] }
theorem scOk : RowOk Tryz.prog scR := ⟨fun _ => rfl, fun x u hu => by simp at hu; rcases hu with rfl | rfl | rfl <;> rfl, Tryz.underlying22, info_of (z := .agg #[.int .i64 0, .int .i64 0, .int .i64 0]) (by kernel_rfl) rfl, by decide, by decide⟩
/-- A record, and where the header of its contents leads. -/
structure Rec where
  sc : Int
  nu : Int
  ki : Int
  ti : Int
  lab : ByteArray
  con : List ByteArray
  A : Option Addr
  c : Nat
def Rec.hd (x : Rec) : Value := .slice x.A x.con.length x.c
abbrev rcR : RowTy Rec := { T := 26, S := 23, k := 6, by' := 72, enc := fun x => [.int .i64 x.sc, .int .i64 x.nu, .int .i64 x.ki, .int .i64 x.ti, .string x.lab, .slice x.A x.con.length x.c] }
theorem rcOk : RowOk Tryz.prog rcR := ⟨fun _ => rfl, fun x u hu => by simp at hu; rcases hu with rfl | rfl | rfl | rfl | rfl | rfl <;> rfl, Tryz.underlying23, info_of (z := .agg #[.int .i64 0, .int .i64 0, .int .i64 0, .int .i64 0, .string ByteArray.empty, .slice none 0 0]) (by kernel_rfl) rfl, by decide, by decide⟩
/-- An event, and where the header of its needs leads. -/
structure Ev where
  off : Int
  lo : Int
  hi : Int
  nd : List Int
  A : Option Addr
  c : Nat
abbrev evR : RowTy Ev := { T := 43, S := 31, k := 4, by' := 48, enc := fun x => [.int .i64 x.off, .int .i64 x.lo, .int .i64 x.hi, .slice x.A x.nd.length x.c] }
theorem evOk : RowOk Tryz.prog evR := ⟨fun _ => rfl, fun x u hu => by simp at hu; rcases hu with rfl | rfl | rfl | rfl <;> rfl, Tryz.underlying31, info_of (z := .agg #[.int .i64 0, .int .i64 0, .int .i64 0, .slice none 0 0]) (by kernel_rfl) rfl, by decide, by decide⟩
/-- A sight. -/
structure Si where
  off : Int
  lo : Int
  hi : Int
abbrev siR : RowTy Si := { T := 45, S := 36, k := 3, by' := 24, enc := fun x => [.int .i64 x.off, .int .i64 x.lo, .int .i64 x.hi] }
theorem siOk : RowOk Tryz.prog siR := ⟨fun _ => rfl, fun x u hu => by simp at hu; rcases hu with rfl | rfl | rfl <;> rfl, Tryz.underlying36, info_of (z := .agg #[.int .i64 0, .int .i64 0, .int .i64 0]) (by kernel_rfl) rfl, by decide, by decide⟩
/-- A list of numbers, and where its header leads. -/
structure Rw where
  l : List Int
  A : Option Addr
  c : Nat
abbrev rwR : RowTy Rw := { T := 41, S := 27, k := 1, by' := 24, enc := fun x => [.slice x.A x.l.length x.c] }
theorem rwOk : RowOk Tryz.prog rwR := ⟨fun _ => rfl, fun x u hu => by simp at hu; subst hu; rfl, Tryz.underlying27, info_of (z := .slice none 0 0) (by kernel_rfl) rfl, by decide, by decide⟩
section
variable {w : World} {B : Nat} {A : Option Addr}
theorem RecIn.int {l : List Int} (h : RecIn intR w B A l) {j : Nat} {x : Int} (hj : l[j]? = some x) : ∃ b off, A = some ⟨b, off, none⟩ ∧ b < B ∧ w.cell? ⟨b, off + j, none⟩ = some (.int .i64 x) := by
  obtain ⟨b, off, e, hb, hc⟩ := h j x hj
  refine ⟨b, off, e, hb, ?_⟩
  have := hc 0 _ rfl
  simpa using this
theorem RecIn.str {l : List ByteArray} (h : RecIn strR w B A l) {j : Nat} {x : ByteArray} (hj : l[j]? = some x) : ∃ b off, A = some ⟨b, off, none⟩ ∧ b < B ∧ w.cell? ⟨b, off + j, none⟩ = some (.string x) := by
  obtain ⟨b, off, e, hb, hc⟩ := h j x hj
  refine ⟨b, off, e, hb, ?_⟩
  have := hc 0 _ rfl
  simpa using this
theorem RecIn.rw_ {l : List Rw} (h : RecIn rwR w B A l) {j : Nat} {x : Rw} (hj : l[j]? = some x) : ∃ b off, A = some ⟨b, off, none⟩ ∧ b < B ∧ w.cell? ⟨b, off + j, none⟩ = some (.slice x.A x.l.length x.c) := by
  obtain ⟨b, off, e, hb, hc⟩ := h j x hj
  refine ⟨b, off, e, hb, ?_⟩
  have := hc 0 _ rfl
  simpa using this
theorem RecIn.sc {l : List Scn} (h : RecIn scR w B A l) {j : Nat} {x : Scn} (hj : l[j]? = some x) : ∃ b off, A = some ⟨b, off, none⟩ ∧ b < B ∧ w.cell? ⟨b, off + j * 3, none⟩ = some (.int .i64 x.op) ∧ w.cell? ⟨b, off + j * 3 + 1, none⟩ = some (.int .i64 x.off) ∧ w.cell? ⟨b, off + j * 3 + 2, none⟩ = some (.int .i64 x.er) := by
  obtain ⟨b, off, e, hb, hc⟩ := h j x hj
  exact ⟨b, off, e, hb, hc 0 _ rfl, hc 1 _ rfl, hc 2 _ rfl⟩
theorem RecIn.si {l : List Si} (h : RecIn siR w B A l) {j : Nat} {x : Si} (hj : l[j]? = some x) : ∃ b off, A = some ⟨b, off, none⟩ ∧ b < B ∧ w.cell? ⟨b, off + j * 3, none⟩ = some (.int .i64 x.off) ∧ w.cell? ⟨b, off + j * 3 + 1, none⟩ = some (.int .i64 x.lo) ∧ w.cell? ⟨b, off + j * 3 + 2, none⟩ = some (.int .i64 x.hi) := by
  obtain ⟨b, off, e, hb, hc⟩ := h j x hj
  exact ⟨b, off, e, hb, hc 0 _ rfl, hc 1 _ rfl, hc 2 _ rfl⟩
theorem RecIn.ev {l : List Ev} (h : RecIn evR w B A l) {j : Nat} {x : Ev} (hj : l[j]? = some x) : ∃ b off, A = some ⟨b, off, none⟩ ∧ b < B ∧ w.cell? ⟨b, off + j * 4, none⟩ = some (.int .i64 x.off) ∧ w.cell? ⟨b, off + j * 4 + 1, none⟩ = some (.int .i64 x.lo) ∧ w.cell? ⟨b, off + j * 4 + 2, none⟩ = some (.int .i64 x.hi) ∧ w.cell? ⟨b, off + j * 4 + 3, none⟩ = some (.slice x.A x.nd.length x.c) := by
  obtain ⟨b, off, e, hb, hc⟩ := h j x hj
  exact ⟨b, off, e, hb, hc 0 _ rfl, hc 1 _ rfl, hc 2 _ rfl, hc 3 _ rfl⟩
theorem RecIn.rc {l : List Rec} (h : RecIn rcR w B A l) {j : Nat} {x : Rec} (hj : l[j]? = some x) : ∃ b off, A = some ⟨b, off, none⟩ ∧ b < B ∧ w.cell? ⟨b, off + j * 6, none⟩ = some (.int .i64 x.sc) ∧ w.cell? ⟨b, off + j * 6 + 1, none⟩ = some (.int .i64 x.nu) ∧ w.cell? ⟨b, off + j * 6 + 2, none⟩ = some (.int .i64 x.ki) ∧ w.cell? ⟨b, off + j * 6 + 3, none⟩ = some (.int .i64 x.ti) ∧ w.cell? ⟨b, off + j * 6 + 4, none⟩ = some (.string x.lab) ∧ w.cell? ⟨b, off + j * 6 + 5, none⟩ = some (.slice x.A x.con.length x.c) := by
  obtain ⟨b, off, e, hb, hc⟩ := h j x hj
  exact ⟨b, off, e, hb, hc 0 _ rfl, hc 1 _ rfl, hc 2 _ rfl, hc 3 _ rfl, hc 4 _ rfl, hc 5 _ rfl⟩
end
end
section
open Go.ChangeShapes Go.WideShapes Go.ChangeAt Go.RowKit
set_option linter.unusedSimpArgs false
set_option linter.unusedVariables false
/-- The first entry at key x. -/
def lookF {κ : Type} (eq : κ → κ → Bool) (x : κ) : List (κ × Value) → Nat → Option (Nat × Value)
  | [], _ => none
  | e :: es, i => if eq x e.1 then some (i, e.2) else lookF eq x es (i + 1)
/-- Block r is a map with just these entries, in this order. -/
def MapIs {κ : Type} (kv : κ → Value) (W : World) (r : Nat) (l : List (κ × Value)) : Prop :=
  ∃ es clock, W.heap[r]? = some (.map es clock) ∧ es.toList.map (fun e => (e.key, e.val)) = l.map fun e => (kv e.1, e.2)

/-- What the laws ask of a key's type that is no plain one: its '==', that it may be hashed, that it is no plain type. -/
structure DeepKey {κ : Type} (P : Program) (K : TypeId) (kv : κ → Value) (eq : κ → κ → Bool) : Prop where
  equal : ∀ x y W, (Op.equal K (kv x) (kv y)).run P W = .ok (eq x y) W
  check : ∀ e x W, (Instr.checkKey e 10000 K (kv x)).run P W = .ok () W
  stays : ∀ x y, eq x y = true → kv x = kv y ∧ Instr.sameBits 10000 (kv x) (kv x) = true
  deep : ∃ d, P.underlying K = some d ∧ ∀ x y, Instr.sameNow d (kv x) (kv y) = none

/-- What the laws ask of a key's type: that a key is found where it is, that it may be hashed, that equal keys are one. -/
structure KeyLaws {κ : Type} (P : Program) (K : TypeId) (kv : κ → Value) (eq : κ → κ → Bool) : Prop where
  find : ∀ (x : κ) (W : World) (es : List MapEntry) (l : List (κ × Value)), es.map (fun e => (e.key, e.val)) = l.map (fun e => (kv e.1, e.2)) → (Instr.findKey K (kv x) es).run P W = .ok (lookF eq x l 0) W
  check : ∀ e x W, (Instr.checkKey e 10000 K (kv x)).run P W = .ok () W
  stays : ∀ x y, eq x y = true → kv x = kv y ∧ Instr.sameBits 10000 (kv x) (kv x) = true
section
variable {κ : Type} {P : Program} {K : TypeId} {kv : κ → Value} {eq : κ → κ → Bool}

theorem run_findAsking_is (L : DeepKey P K kv eq) (x : κ) (W : World) : ∀ (es : List MapEntry) (l : List (κ × Value)) (i : Nat), es.map (fun e => (e.key, e.val)) = l.map (fun e => (kv e.1, e.2)) →
    (Instr.findAsking K (kv x) es i).run P W = .ok (lookF eq x l i) W
  | [], [], i, _ => by simp [Instr.findAsking, lookF]
  | e :: es, a :: l, i, h => by
    simp only [List.map_cons, List.cons.injEq, Prod.mk.injEq] at h
    obtain ⟨⟨h1, h2⟩, h3⟩ := h
    simp only [Instr.findAsking, Sem.run_bind, h1, L.equal, Result.andThen_ok, Sem.run_ite, lookF]
    by_cases hb : eq x a.1 = true
    · simp [hb, h2]
    · simp only [hb]
      simpa using run_findAsking_is L x W es l (i + 1) h3
  | [], a :: l, i, h => by simp at h
  | e :: es, [], i, h => by simp at h

theorem DeepKey.findKey (L : DeepKey P K kv eq) (x : κ) (W : World) (es : List MapEntry) (l : List (κ × Value)) (h : es.map (fun e => (e.key, e.val)) = l.map (fun e => (kv e.1, e.2))) :
    (Instr.findKey K (kv x) es).run P W = .ok (lookF eq x l 0) W := by
  obtain ⟨d, hd, hs⟩ := L.deep
  simp only [Instr.findKey, Sem.run_bind, run_underlying hd, Result.andThen_ok]
  cases es with
  | nil =>
    cases l with
    | nil => simp [Instr.findNow, lookF]
    | cons a l => simp at h
  | cons e es =>
    cases l with
    | nil => simp at h
    | cons a l =>
      have hk : e.key = kv a.1 := by simp at h; exact h.1.1
      have : Instr.findNow d (kv x) (e :: es) 0 = none := by simp [Instr.findNow, hk, hs]
      simp only [this]
      exact run_findAsking_is L x W _ _ 0 h
theorem DeepKey.laws (L : DeepKey P K kv eq) : KeyLaws P K kv eq := ⟨fun x W es l h => L.findKey x W es l h, L.check, L.stays⟩
theorem run_lookup_is (L : KeyLaws P K kv eq) {T E : TypeId} (hT : P.underlying T = some (.map K E)) (ok : Bool) (x : κ) (W : World) (r : Nat) (l : List (κ × Value)) (hm : MapIs kv W r l) (z : Value) (hz : (zeroValue E).run P W = .ok z W) :
    (Instr.lookup T (.map (some r)) (kv x) ok).run P W = .ok (if ok then .tuple #[((lookF eq x l 0).map (·.2)).getD z, .bool (lookF eq x l 0).isSome] else ((lookF eq x l 0).map (·.2)).getD z) W := by
  obtain ⟨es, clock, hr, he⟩ := hm
  have hget : (getObj r).run P W = .ok (.map es clock) W := by simp [getObj, Sem.run, hr]
  simp only [Instr.lookup, Sem.run_bind, run_underlying hT, Result.andThen_ok, hget, Sem.run_pure, L.check, L.find x W es.toList l he]
  cases hl : lookF eq x l 0 with
  | none => simp [hz]
  | some p => simp


def setF {κ : Type} (eq : κ → κ → Bool) (x : κ) (v : Value) : List (κ × Value) → List (κ × Value)
  | [] => [(x, v)]
  | e :: es => if eq x e.1 then (x, v) :: es else e :: setF eq x v es
theorem look_set_none {eq : κ → κ → Bool} {x : κ} {v : Value} : ∀ {l : List (κ × Value)} {i : Nat}, lookF eq x l i = none → setF eq x v l = l ++ [(x, v)]
  | [], _, _ => rfl
  | e :: es, i, h => by
    simp only [lookF] at h
    by_cases hb : eq x e.1 = true
    · rw [if_pos hb] at h; cases h
    · rw [if_neg hb] at h
      simp only [setF, if_neg hb, List.cons_append, look_set_none h]
theorem modify_set (x : κ) (v : Value) {key : Value} : ∀ (es : List MapEntry) (l : List (κ × Value)) (i j : Nat) (old : Value), es.map (fun e => (e.key, e.val)) = l.map (fun e => (kv e.1, e.2)) → lookF eq x l j = some (i + j, old) → key = kv x →
    (es.modify i fun e => { e with key := key, val := v }).map (fun e => (e.key, e.val)) = (setF eq x v l).map (fun e => (kv e.1, e.2)) ∧ ∃ e, es[i]? = some e ∧ ∃ y, eq x y = true ∧ e.key = kv y
  | [], [], i, j, old, _, h, _ => by simp [lookF] at h
  | e :: es, a :: l, i, j, old, hm, h, hk => by
    simp only [List.map_cons, List.cons.injEq, Prod.mk.injEq] at hm
    obtain ⟨⟨h1, h2⟩, h3⟩ := hm
    simp only [lookF] at h
    by_cases hb : eq x a.1 = true
    · rw [if_pos hb] at h
      injection h with h
      injection h with h4 h5
      have hi : i = 0 := by omega
      subst hi
      simp only [setF, if_pos hb, List.modify_zero_cons, List.map_cons, h3, hk]
      exact ⟨trivial, e, rfl, a.1, hb, h1⟩
    · rw [if_neg hb] at h
      obtain ⟨i', rfl⟩ : ∃ i', i = i' + 1 := by
        refine ⟨i - 1, ?_⟩
        have : ∀ (l : List (κ × Value)) (j i : Nat) (old : Value), lookF eq x l j = some (i, old) → j ≤ i := by
          intro l
          induction l with
          | nil => intro j i old h; simp [lookF] at h
          | cons b l ih =>
            intro j i old h
            simp only [lookF] at h
            split at h
            · injection h with h; injection h with h _; omega
            · have := ih _ _ _ h; omega
        have := this _ _ _ _ h
        omega
      have ih := modify_set x v es l i' (j + 1) old h3 (by rw [h]; congr 2; omega) hk
      simp only [setF, if_neg hb, List.modify_succ_cons, List.map_cons, h1, h2, ih.1]
      refine ⟨trivial, ?_⟩
      simpa using ih.2
  | [], a :: l, _, _, _, h, _, _ => by simp at h
  | e :: es, [], _, _, _, h, _, _ => by simp at h
theorem run_update_any (L : KeyLaws P K kv eq) {T E : TypeId} (hT : P.underlying T = some (.map K E)) (x : κ) (v : Value) (W : World) (r : Nat) (l : List (κ × Value)) (hm : MapIs kv W r l) :
    ∃ W', (Instr.mapUpdate T (.map (some r)) (kv x) v).run P W = .ok () W' ∧ MapIs kv W' r (setF eq x v l) ∧ W.grownBy W' (some r) := by
  obtain ⟨es, clock, hr, he⟩ := hm
  have hget : (getObj r).run P W = .ok (.map es clock) W := by simp [getObj, Sem.run, hr]
  have hset : ∀ o, (setObj r o).run P W = .ok () (W.putObj r o) := fun o => by simp [setObj, Sem.run, hr, World.putObj]
  cases hl : lookF eq x l 0 with
  | none =>
    simp only [Instr.mapUpdate, Sem.run_bind, run_underlying hT, Result.andThen_ok, hget, L.check, L.find x W es.toList l he, hl, hset]
    refine ⟨_, rfl, ⟨_, _, World.putObj_heap_same (Array.getElem?_eq_some_iff.1 hr).1, ?_⟩, ⟨rfl, rfl, rfl, by simp, fun k _ hk => World.putObj_heap_other (fun e => hk (by rw [e]))⟩⟩
    rw [look_set_none hl]; simp [he]
  | some p =>
    obtain ⟨i, old⟩ := p
    obtain ⟨h1, e, h2, y, h3, h4⟩ := modify_set (kv := kv) (key := kv x) x v es.toList l i 0 old he hl rfl
    obtain ⟨h5, h6⟩ := L.stays x y h3
    have hkey : ((es[i]?).map (·.key)).getD (kv x) = kv x := by
      have : es[i]? = some e := by simpa using h2
      rw [this]; simp [h4, h5]
    have hst : ∀ W, (Instr.keyThatStays (kv x) (kv x)).run P W = .ok (kv x) W := fun W => by simp [Instr.keyThatStays, h6]
    simp only [Instr.mapUpdate, Sem.run_bind, run_underlying hT, Result.andThen_ok, hget, L.check, L.find x W es.toList l he, hl, hkey, hst, hset]
    refine ⟨_, rfl, ⟨_, _, World.putObj_heap_same (Array.getElem?_eq_some_iff.1 hr).1, ?_⟩, ⟨rfl, rfl, rfl, by simp, fun k _ hk => World.putObj_heap_other (fun e => hk (by rw [e]))⟩⟩
    rw [← h1]; simp [Array.toList_modify]
theorem look_set [DecidableEq κ] {eq : κ → κ → Bool} (h1 : ∀ x y, eq x y = true ↔ x = y) (x y : κ) (v : Value) : ∀ (l : List (κ × Value)) (i : Nat), (lookF eq y (setF eq x v l) i).map (·.2) = if y = x then some v else (lookF eq y l i).map (·.2)
  | [], i => by
    simp only [setF, lookF]
    by_cases e : y = x
    · subst e; simp [(h1 y y).2 rfl]
    · have : ¬ eq y x = true := fun h => e ((h1 y x).1 h)
      simp [this, e]
  | a :: l, i => by
    have ih := look_set h1 x y v l (i + 1)
    simp only [setF]
    by_cases hb : eq x a.1 = true
    · rw [if_pos hb]
      have hx := (h1 _ _).1 hb
      simp only [lookF]
      by_cases e : y = x
      · subst e; simp [(h1 y y).2 rfl]
      · have h2 : ¬ eq y x = true := fun h => e ((h1 y x).1 h)
        have h3 : ¬ eq y a.1 = true := by rw [← hx]; exact h2
        simp [h2, h3, e]
    · rw [if_neg hb]
      simp only [lookF]
      by_cases e2 : eq y a.1 = true
      · have hy := (h1 _ _).1 e2
        have hne : y ≠ x := fun e => hb (by rw [← e, hy]; exact (h1 _ _).2 rfl)
        simp [e2, hne]
      · simp only [if_neg e2]; exact ih
end


section
variable {P : Program} {K : TypeId}
theorem findNow_int {q : IntKind} (k : IntKind) (x : Int) : ∀ (es : List MapEntry) (l : List (Int × Value)) (i : Nat), es.map (fun e => (e.key, e.val)) = l.map (fun e => (Value.int q e.1, e.2)) →
    Instr.findNow (.int k) (.int q x) es i = some (lookF (fun a b => a == b) x l i)
  | [], [], i, _ => rfl
  | e :: es, a :: l, i, h => by
    simp only [List.map_cons, List.cons.injEq, Prod.mk.injEq] at h
    obtain ⟨⟨h1, h2⟩, h3⟩ := h
    have ih := findNow_int k x es l (i + 1) h3
    by_cases hb : x = a.1
    · simp [Instr.findNow, Instr.sameNow, h1, h2, lookF, hb]
    · have hb' : (x == a.1) = false := by simpa using hb
      simp only [Instr.findNow, Instr.sameNow, h1, lookF, if_true, hb', ih]
      simp
  | [], a :: l, i, h => by simp at h
  | e :: es, [], i, h => by simp at h
theorem check_int {q k : IntKind} (hK : P.underlying K = some (.int k)) (e : Bool) (n : Nat) (x : Int) (W : World) : (Instr.checkKey e (n + 1) K (.int q x)).run P W = .ok () W := by
  simp only [Instr.checkKey, Sem.run_bind, run_underlying hK, Result.andThen_ok, Sem.run_pure]
theorem intKeys {q k : IntKind} (hK : P.underlying K = some (.int k)) : KeyLaws P K (fun x : Int => Value.int q x) (fun a b => a == b) where
  find := fun x W es l h => by
    simp only [Instr.findKey, Sem.run_bind, run_underlying hK, Result.andThen_ok, findNow_int k x es l 0 h, Sem.run_pure]
  check := fun e x W => check_int hK e 9999 x W
  stays := fun x y h => by
    have : x = y := by simpa using h
    subst this
    exact ⟨rfl, by simp [Instr.sameBits]⟩
end
section
variable {κ : Type} {P : Program} {K : TypeId} {kv : κ → Value} {eq : κ → κ → Bool}
/-- Block r is a map that holds what g says. -/
def MapTo (kv : κ → Value) (eq : κ → κ → Bool) (W : World) (r : Nat) (g : κ → Option Value) : Prop := ∃ L, MapIs kv W r L ∧ ∀ k, (lookF eq k L 0).map (·.2) = g k
theorem MapTo.lt {W : World} {r : Nat} {g : κ → Option Value} (h : MapTo kv eq W r g) : r < W.heap.size := by
  obtain ⟨L, ⟨es, cl, hr, _⟩, _⟩ := h
  exact (Array.getElem?_eq_some_iff.1 hr).1
theorem MapTo.same {W W' : World} {r : Nat} {g : κ → Option Value} (h : MapTo kv eq W r g) (e : W'.heap[r]? = W.heap[r]?) : MapTo kv eq W' r g := by
  obtain ⟨L, ⟨es, cl, hr, he⟩, hg⟩ := h
  exact ⟨L, ⟨es, cl, e.trans hr, he⟩, hg⟩
theorem MapTo.keep {W W' : World} {r : Nat} {g : κ → Option Value} (h : MapTo kv eq W r g) (hk : Keeps W W') : MapTo kv eq W' r g := h.same (hk.block r h.lt)
theorem MapTo.below {W W' : World} {B r : Nat} {g : κ → Option Value} (h : MapTo kv eq W r g) (hk : Below B W W') (hr : r < B) : MapTo kv eq W' r g := h.same (hk.block r hr)
theorem MapTo.grown {W W' : World} {r : Nat} {g : κ → Option Value} {row : Option Nat} (h : MapTo kv eq W r g) (hg : W.grownBy W' row) (hne : row ≠ some r) : MapTo kv eq W' r g := h.same (hg.block r h.lt (fun e => hne e.symm))
theorem MapTo.congr {W : World} {r : Nat} {g g' : κ → Option Value} (h : MapTo kv eq W r g) (e : ∀ k, g k = g' k) : MapTo kv eq W r g' := by
  obtain ⟨L, hm, hg⟩ := h
  exact ⟨L, hm, fun k => (hg k).trans (e k)⟩
theorem MapTo.look (L : KeyLaws P K kv eq) {T E : TypeId} (hT : P.underlying T = some (.map K E)) (ok : Bool) {W : World} {r : Nat} {g : κ → Option Value} (h : MapTo kv eq W r g) (z : Value) (hz : (zeroValue E).run P W = .ok z W) (x : κ) :
    (Instr.lookup T (.map (some r)) (kv x) ok).run P W = .ok (if ok then .tuple #[(g x).getD z, .bool (g x).isSome] else (g x).getD z) W := by
  obtain ⟨l, hm, hg⟩ := h
  have hl := run_lookup_is L hT ok x W r l hm z hz
  have h1 := hg x
  have h2 : (lookF eq x l 0).isSome = (g x).isSome := by
    have := congrArg Option.isSome h1; simpa using this
  rw [h1, h2] at hl
  exact hl
theorem MapTo.put [DecidableEq κ] (L : KeyLaws P K kv eq) (he : ∀ x y, eq x y = true ↔ x = y) {T E : TypeId} (hT : P.underlying T = some (.map K E)) {W : World} {r : Nat} {g : κ → Option Value} (h : MapTo kv eq W r g) (x : κ) (v : Value) :
    ∃ W', (Instr.mapUpdate T (.map (some r)) (kv x) v).run P W = .ok () W' ∧ MapTo kv eq W' r (fun k => if k = x then some v else g k) ∧ W.grownBy W' (some r) := by
  obtain ⟨l, hm, hg⟩ := h
  obtain ⟨W', h1, h2, h3⟩ := run_update_any L hT x v W r l hm
  refine ⟨W', h1, ⟨_, h2, fun k => ?_⟩, h3⟩
  rw [look_set he]
  by_cases e : k = x
  · subst e; simp
  · simp only [if_neg e]; exact hg k
theorem MapTo.made (W : World) : MapTo kv eq (W.alloc (.map #[] 0)) W.heap.size (fun _ => none) := ⟨[], ⟨#[], 0, heap_alloc_new W _, rfl⟩, fun k => rfl⟩
end
theorem grown_only {a b c : World} {r : Nat} (h : Keeps a b) (hg : b.grownBy c (some r)) : a.grownBy c (some r) :=
  ⟨hg.os.trans h.os, hg.tape.trans h.tape, hg.output.trans h.output, Nat.le_trans h.size hg.size, fun i hi hne => (hg.block i (Nat.lt_of_lt_of_le hi h.size) hne).trans (h.block i hi)⟩
theorem grown_of_keeps {a b : World} (h : Keeps a b) (row : Option Nat) : a.grownBy b row := ⟨h.os, h.tape, h.output, h.size, fun i hi _ => h.block i hi⟩
theorem grown_keepsr {a b c : World} {r : Nat} (h : Keeps a b) (hg : b.grownBy c (some r)) (hr : a.heap.size ≤ r) : Keeps a c := grown_keeps h hg (fun k e => by injection e with e; omega)
end
section
open Go.ChangeShapes Go.WideShapes Go.ChangeAt Go.RowKit
set_option linter.unusedSimpArgs false
set_option linter.unusedVariables false
theorem wrap_in {x : Int} (h1 : -9223372036854775808 ≤ x) (h2 : x ≤ 9223372036854775807) : IntKind.i64.wrap x = x := by rw [IntKind.wrap_i64]; omega
/-- One step of the digest, and the digest of a list of numbers. -/
def dgS (h x : Int) : Int := (h * 1000003 + x % 2147483647 + 1) % 2147483647
def dgF (l : List Int) : Int := l.foldl dgS 7
theorem dgS_in (h x : Int) : 0 ≤ dgS h x ∧ dgS h x < 2147483647 := by unfold dgS; omega
theorem dgF_in : ∀ (l : List Int) (h : Int), 0 ≤ h → h < 2147483647 → 0 ≤ l.foldl dgS h ∧ l.foldl dgS h < 2147483647
  | [], h, h0, h1 => ⟨h0, h1⟩
  | x :: l, h, _, _ => dgF_in l (dgS h x) (dgS_in h x).1 (dgS_in h x).2
theorem foldl_snoc {α β : Type} (f : β → α → β) (b : β) {l : List α} {k : Nat} {x : α} (h : l[k]? = some x) : (l.take (k + 1)).foldl f b = f ((l.take k).foldl f b) x := by
  rw [List.take_add_one, h]; simp
theorem tmod_pos {x : Int} (h : 0 ≤ x.tmod 2147483647) : x.tmod 2147483647 = x % 2147483647 := by
  rcases Int.le_total 0 x with h0 | h0
  · exact Int.tmod_eq_emod_of_nonneg h0
  · have h1 := Int.tmod_eq_emod (a := x) (b := 2147483647)
    split at h1 <;> omega
theorem tmod_neg {x : Int} (h : x.tmod 2147483647 < 0) : x.tmod 2147483647 + 2147483647 = x % 2147483647 := by
  have h1 := Int.tmod_eq_emod (a := x) (b := 2147483647)
  split at h1
  · omega
  · omega
theorem tmod_in (x : Int) : -2147483647 < x.tmod 2147483647 ∧ x.tmod 2147483647 < 2147483647 := by
  have h1 := Int.tmod_eq_emod (a := x) (b := 2147483647)
  split at h1 <;> omega
def CntS (l : List Int) (w : World) (a b : Value) (wr : World) : Prop := ∃ i : Nat, i ≤ l.length ∧ b = .int .i64 (i : Int) ∧ a = .int .i64 ((l.take i).foldl dgS 7) ∧ wr = w
set_option maxRecDepth 100000 in
set_option maxHeartbeats 4000000 in
theorem dg_any (l : List Int) (A : Option Addr) (n c : Nat) (w : World) (h : RecIn intR w w.heap.size A l) (hn : Hid (n = l.length)) (hnm : n ≤ 9223372036854775807) :
    Calls Tryz.prog 52 #[.slice A n c] w fun e w' => e = .returned (.int .i64 (dgF l)) ∧ w = w' := by
  have HD := Lib.hid h
  clear h
  unfold dgF
  go_enter Tryz.func52, Tryz.ntmps52
  go_wp2_with fail
  go_loopw [3, 9] (fun a b wr => CntS l w a b wr) (fun _ b _ => n - (intOf b).toNat)
  case atStart => exact ⟨0, by omega, rfl, rfl, rfl⟩
  case round =>
    obtain ⟨i, hi, rfl, rfl, rfl⟩ := hrel
    have hnl := hn.out
    have hb := dgF_in (l.take i) 7 (by omega) (by omega)
    by_cases hin : i < n
    · obtain ⟨x, hx⟩ : ∃ x, l[i]? = some x := ⟨_, List.getElem?_eq_getElem (by omega)⟩
      have hs := Lib.hid (foldl_snoc dgS 7 hx)
      obtain ⟨b, o, rfl, hbl, c0⟩ := HD.out.int hx
      generalize (l.take i).foldl dgS 7 = H at *
      have ii : (i : Int) < (n : Int) := by omega
      have i0 : (0 : Int) ≤ (i : Int) := by omega
      have iw : IntKind.i64.wrap ((i : Int) + 1) = (i : Int) + 1 := wrap_in (by omega) (by omega)
      have hb0 := hb.1
      have hb1 := hb.2
      have tm := tmod_in x
      have tm0 := tm.1
      have tm1 := tm.2
      have TP := Lib.hid (fun h => tmod_pos (x := x) h)
      have TN := Lib.hid (fun h => tmod_neg (x := x) h)
      clear hx hb tm
      have hil : i < l.length := by omega
      clear hnl
      by_cases hg : x.tmod 2147483647 < 0
      · have d1 : decide (x.tmod 2147483647 < 0) = true := by simpa using hg
        have e1 := TN.out hg
        have b1 : 0 ≤ x.tmod 2147483647 + 2147483647 := by omega
        have b2 : x.tmod 2147483647 + 2147483647 < 2147483647 := by omega
        have E1 := Lib.hid e1
        clear e1 TP TN
        go_wp2_with fail
        go_roundw
        case rel => exact ⟨i + 1, by omega, by go_num, by rw [hs.out, dgS, ← E1.out], rfl⟩
        case measure => simp [intOf]; omega
      · have d1 : decide (x.tmod 2147483647 < 0) = false := by simpa using hg
        have e1 := TP.out (by omega)
        have b1 : 0 ≤ x.tmod 2147483647 := by omega
        have E1 := Lib.hid e1
        clear e1 TP TN
        go_wp2_with fail
        go_roundw
        case rel => exact ⟨i + 1, by omega, by go_num, by rw [hs.out, dgS, ← E1.out], rfl⟩
        case measure => simp [intOf]; omega
    · have e : l.take i = l := List.take_of_length_le (by omega)
      rw [e] at *
      go_wp2_with fail
      go_ret
      exact ⟨rfl, rfl⟩

theorem sumD_any (l : List Int) (A : Option Addr) (n c : Nat) (w : World) (h : RecIn intR w w.heap.size A l) (hn : Hid (n = l.length)) (hnm : n ≤ 9223372036854775807) :
    Calls Tryz.prog 27 #[.slice A n c] w fun e w' => e = .returned (.int .i64 (dgF l)) ∧ w = w' := by
  have HC := Lib.hid (dg_any l A n c w h hn hnm)
  clear h
  go_enter Tryz.func27, Tryz.ntmps27
  go_wp2_with (go_at_call 52; (with_reducible refine HC.out.mono ?_); rintro e w' ⟨rfl, rfl⟩)
  go_ret
  exact ⟨rfl, rfl⟩
/-- 'make' of no element, with room for n. -/
theorem wpList_make0R {α : Type} {R : RowTy α} {P : Program} (ok : RowOk P R) {w0 w : World} {ops : Array Oper} {rest : List Oper} {o : Oper} {a : Act} {Q : Exit → Act → World → Prop} (hgd : o.guard = none) (l c : Operand) (ho : o.op = .makeSlice R.S l c)
    (n : Nat) (hl : a.eval l = .int .i64 0) (hc : a.eval c = .int .i64 (n : Int)) (hn : n ≤ 1000000) (hw : Keeps w0 w)
    (h : ∀ w', OwnR R w0 w' (.slice (some ⟨w.heap.size, 0, none⟩) 0 n) [] → w.grownBy w' none → wpList P ops Q rest (a.put o.dst (.slice (some ⟨w.heap.size, 0, none⟩) 0 n)) w') : wpList P ops Q (o :: rest) a w := by
  obtain ⟨i0, z, hi0, hz0, hz1, hz2, hz3⟩ := ok.info
  have hby : i0.bytes * n ≤ 1000 * 1000000 := Nat.mul_le_mul (by rw [hz2]; exact ok.few) hn
  exact wpList_make_own w hgd l c R.S ho w0.heap.size R.T i0 z R.k ok.und hi0 hz0 hz1 .i64 .i64 (n : Int) n hl hc rfl (by omega) (by unfold maxLen; omega) hw.size (fun w' h1 h2 => h w' ⟨h1, grown_keeps hw h2 (fun k e => by cases e)⟩ h2)
/-- The bytes of a text as numbers. -/
def codes (s : ByteArray) : List Int := s.data.toList.map fun b => (b.toNat : Int)
theorem codes_len (s : ByteArray) : (codes s).length = s.size := by simp [codes]
theorem codes_at (s : ByteArray) (k : Nat) (h : k < s.size) : (codes s)[k]? = some ((s[k].toNat : Int)) := by
  unfold codes
  rw [List.getElem?_map, List.getElem?_eq_getElem (by simpa using h)]
  rfl
theorem take_snoc' {α : Type} {l : List α} {k : Nat} {x : α} (h : l[k]? = some x) : l.take (k + 1) = l.take k ++ [x] := by rw [List.take_add_one, h]; rfl
def tokF (secret : Int) (s : ByteArray) : Int := dgF (secret :: codes s)
def TokR (secret : Int) (s : ByteArray) (w : World) (a b : Value) (wr : World) : Prop := ∃ (i : Nat) (A : Option Addr) (n c : Nat), i ≤ s.size ∧ a = .slice A n c ∧ b = .int .i64 (i : Int) ∧ OwnR intR w wr (.slice A n c) (secret :: (codes s).take i)
def slLen : Value → Nat | .slice _ n _ => n | _ => 0
set_option maxRecDepth 100000 in
set_option maxHeartbeats 4000000 in
theorem token_any (secret : Int) (s : ByteArray) (w : World) (hs : s.size ≤ 1000) :
    Calls Tryz.prog 11 #[.int .i64 secret, .string s] w fun e w' => e = .returned (.int .i64 (tokF secret s)) ∧ Keeps w w' := by
  have hw : IntKind.i64.wrap ((s.size : Int) + 1) = ((s.size + 1 : Nat) : Int) := wrap_in (by omega) (by omega)
  have ONE := Lib.hid (show (1 : Nat) = [secret].length from rfl)
  have L1 := Lib.hid (show ([] : List Int).length + [secret].length ≤ 1000000 by simp)
  go_enter Tryz.func11, Tryz.ntmps11
  go_wp2_with (first | (at_make; refine wpList_make0R intOk (w0 := w) rfl (.const (.int .i64 0)) (.tmp 9) rfl (s.size + 1) rfl rfl (by omega) (Keeps.refl _) ?_; intro w1 ho1 hg1; have O1 := Lib.hid (ho1.keep ((Keeps.refl _).alloc (.cells #[.int .i64 secret] 3))); have X1 := Lib.hid (RecIn.lit intOk w1 [secret] #[.int .i64 secret] rfl); clear ho1 hg1) | (at_builtin; refine wpList_appR intOk (w0 := w) rfl (.tmp 11) (.tmp 13) rfl _ [] rfl O1.out _ _ _ [secret] rfl X1.out ONE L1 ?_; intro A2 n2 c2 w2 ho2 hg2; clear hg2; have O2 := Lib.hid ho2; clear ho2 O1 X1))
  go_loopw [5, 17] (fun a b wr => TokR secret s w a b wr) (fun _ b _ => s.size - (intOf b).toNat)
  case atStart => exact ⟨0, A2, n2, c2, by omega, rfl, rfl, O2.out⟩
  case round =>
    clear O2
    obtain ⟨i, A, n, c, hi, rfl, rfl, hO⟩ := hrel
    have hn := (hO.recs intOk).2
    by_cases hin : i < s.size
    · have bx1 : (s[i].toNat : Int) ≤ 255 := by have := s[i].toNat_lt; omega
      have hsn := Lib.hid (take_snoc' (codes_at s i hin))
      have ii : (i : Int) < (s.size : Int) := by omega
      have i0 : (0 : Int) ≤ (i : Int) := by omega
      have iw : IntKind.i64.wrap ((i : Int) + 1) = (i : Int) + 1 := wrap_in (by omega) (by omega)
      have LE := Lib.hid (show (secret :: (codes s).take i).length + [(s[i].toNat : Int)].length ≤ 1000000 by simp [codes_len]; omega)
      have ONE := Lib.hid (show (1 : Nat) = [(s[i].toNat : Int)].length from rfl)
      have O1 := Lib.hid (hO.keep ((Keeps.refl _).alloc (.cells #[.int .i64 (s[i].toNat : Int)] 3)))
      have X1 := Lib.hid (RecIn.lit intOk wr [(s[i].toNat : Int)] #[.int .i64 (s[i].toNat : Int)] rfl)
      clear hO hn
      go_wp2_with (at_builtin; refine wpList_appR intOk (w0 := w) rfl (.tmp 20) (.tmp 25) rfl _ (secret :: (codes s).take i) rfl O1.out _ _ _ [(s[i].toNat : Int)] rfl X1.out ONE LE ?_; intro A2 n2 c2 w2 ho2 hg2; clear hg2; have O2 := Lib.hid ho2; clear ho2 O1 X1)
      go_roundw
      case rel => exact ⟨i + 1, A2, n2, c2, by omega, rfl, by go_num, by rw [hsn.out, ← List.cons_append]; exact O2.out⟩
      case measure => simp [intOf]; omega
    · have e : (codes s).take i = codes s := List.take_of_length_le (by rw [codes_len]; omega)
      rw [e] at hO
      have HC := Lib.hid (sumD_any (secret :: codes s) A n c wr (hO.recs intOk).1 (Lib.hid (hO.recs intOk).2) (by rw [(hO.recs intOk).2]; simp [codes_len]; omega))
      have HK := Lib.hid hO.2
      clear hO hn e
      go_wp2_with (go_at_call 27; (with_reducible refine HC.out.mono ?_); rintro e w' ⟨rfl, rfl⟩)
      go_ret
      exact ⟨rfl, HK.out⟩
end
section
open Go.ChangeShapes Go.WideShapes Go.ChangeAt Go.RowKit
set_option linter.unusedSimpArgs false
set_option linter.unusedVariables false
def IxPost (b : Bool) (w : World) (e : Ending) (w' : World) : Prop := ∃ I : Int, decide (0 ≤ I) = b ∧ e = .returned (.int .i64 I) ∧ w = w'
theorem ix_post {b : Bool} {w : World} {I : Int} (h : decide (0 ≤ I) = b) : IxPost b w (.returned (.int .i64 I)) w := ⟨I, h, rfl, rfl⟩
def hasF (l : List Int) (x : Int) : Bool := l.any (fun y => y == x)
theorem hasF_iff {l : List Int} {x : Int} : hasF l x = true ↔ x ∈ l := by simp [hasF]
def IxR (l : List Int) (x : Int) (w : World) (v : Value) (wr : World) : Prop := ∃ i : Nat, i ≤ l.length ∧ v = .int .i64 (i : Int) ∧ wr = w ∧ hasF (l.take i) x = false
set_option maxRecDepth 100000 in
theorem index106 (l : List Int) (x : Int) (A : Option Addr) (n c : Nat) (w : World) (h : RecIn intR w w.heap.size A l) (hn : Hid (n = l.length)) (hnm : n ≤ 1000000) :
    Calls Tryz.prog 106 #[.slice A n c, .int .i64 x] w (IxPost (hasF l x) w) := by
  have HD := Lib.hid h
  obtain ⟨bb, hbb⟩ : ∃ b, hasF l x = b := ⟨_, rfl⟩
  have HBB := Lib.hid hbb
  rw [hbb]
  clear h hbb
  go_enter Tryz.func106, Tryz.ntmps106
  go_wp2_with fail
  go_loopw [8] (fun v wr => IxR l x w v wr) (fun v _ => n - (intOf v).toNat)
  case atStart => exact ⟨0, by omega, rfl, rfl, rfl⟩
  case round =>
    obtain ⟨i, hi, rfl, rfl, hno⟩ := hrel
    have hnl := hn.out
    have HNO := Lib.hid hno
    by_cases hin : i < n
    · obtain ⟨y, hy⟩ : ∃ y, l[i]? = some y := ⟨_, List.getElem?_eq_getElem (by omega)⟩
      have HY := Lib.hid hy
      obtain ⟨b, o, rfl, hbl, c0⟩ := HD.out.int hy
      have hil : i < l.length := by omega
      have ii : (i : Int) < (n : Int) := by omega
      have i0 : (0 : Int) ≤ (i : Int) := by omega
      have iw : IntKind.i64.wrap ((i : Int) + 1) = (i : Int) + 1 := wrap_in (by omega) (by omega)
      clear hy hno hnl
      by_cases hxy : y = x
      · subst hxy
        go_wp2_with fail
        go_ret
        exact ix_post (by rw [← HBB.out]; have : hasF l y = true := hasF_iff.2 (List.mem_of_getElem? HY.out); rw [this]; simp)
      · have d1 : (x == y) = false := by simpa using fun e => hxy e.symm
        have hd := Lib.hid (show hasF (l.take (i + 1)) x = false by
          rw [take_snoc' HY.out]
          have := HNO.out
          unfold hasF at *
          rw [List.any_append, this]
          simpa using hxy)
        go_wp2_with fail
        go_roundw
        case rel => exact ⟨i + 1, by omega, by go_num, rfl, hd.out⟩
        case measure => simp [intOf]; omega
    · have e : l.take i = l := List.take_of_length_le (by omega)
      rw [e] at HNO
      clear hno hnl e
      go_wp2_with fail
      go_ret
      exact ix_post (by rw [← HBB.out, HNO.out]; decide)
theorem has61 (l : List Int) (x : Int) (A : Option Addr) (n c : Nat) (w : World) (h : RecIn intR w w.heap.size A l) (hn : Hid (n = l.length)) (hnm : n ≤ 1000000) :
    Calls Tryz.prog 61 #[.slice A n c, .int .i64 x] w fun e w' => e = .returned (.bool (hasF l x)) ∧ w = w' := by
  have HC := Lib.hid (index106 l x A n c w h hn hnm)
  generalize hasF l x = b at HC ⊢
  clear h
  go_enter Tryz.func61, Tryz.ntmps61
  go_wp2_with (go_at_call 106; (with_reducible refine HC.out.mono ?_); rintro e w' ⟨I, h1, rfl, rfl⟩; have H1 := Lib.hid h1; clear h1)
  go_ret
  exact ⟨by show Ending.returned (.bool (decide (0 ≤ I))) = _; rw [H1.out], rfl⟩
def CloneP (l : List Int) (n : Nat) (w : World) (e : Ending) (w' : World) : Prop := ∃ A' c', e = .returned (.slice A' n c') ∧ OwnR intR w w' (.slice A' n c') l
set_option maxRecDepth 100000 in
theorem clone64 (l : List Int) (A : Option Addr) (n c : Nat) (w : World) (hl : RecIn intR w w.heap.size A l) (hln : Hid (n = l.length)) (hn : n ≤ 100000) :
    Calls Tryz.prog 64 #[.slice A n c] w (CloneP l n w) := by
  have q28 : ∀ (w : World) (a : Option Addr) (n c n' c' : Nat), (binOp .eql 41 (.slice a n c) (.slice none n' c')).run Tryz.prog w = .ok (.bool a.isNone) w := fun w a n c n' c' => Lib.run_eql_slice_nil w _ _ a n c n' c' Tryz.underlying41
  rcases A with _ | ad
  · have hl0 : l = [] := by
      cases l with
      | nil => rfl
      | cons x t => obtain ⟨b, o, e, _⟩ := hl.int (j := 0) rfl; cases e
    have hn0 : n = 0 := by rw [hln.out, hl0]; rfl
    subst hl0
    subst hn0
    clear hl
    go_enter Tryz.func64, Tryz.ntmps64
    go_wp2_with fail
    go_ret
    exact ⟨none, 0, rfl, OwnR.nil w⟩
  · have O0 := Lib.hid (OwnR.lit (R := intR) (Keeps.refl w))
    have OL := Lib.hid (hl.keep O0.out.2)
    have L0 := Lib.hid (show ([] : List Int).length + l.length ≤ 1000000 by have := hln.out; simp; omega)
    clear hl
    go_enter Tryz.func64, Tryz.ntmps64
    go_wp2_with (at_builtin; refine wpList_appR intOk rfl (.tmp 5) (.tmp 6) rfl _ [] rfl O0.out _ n c l rfl OL.out hln L0 ?_; intro A' n' c' w6 ho6 hg6; clear hg6; replace ho6 : OwnR intR w w6 (.slice A' n' c') l := ho6; have H6 := Lib.hid ho6; clear ho6)
    go_ret
    have hn := (H6.out.recs intOk).2
    have e : n' = n := by have := hln.out; omega
    subst e
    exact ⟨_, _, rfl, H6.out⟩
end
end Go.Proofs.YthkmpegpmpdhaaaGreatDoor
