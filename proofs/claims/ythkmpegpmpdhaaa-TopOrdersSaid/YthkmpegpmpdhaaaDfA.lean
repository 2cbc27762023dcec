/- Words for memory, for the laws of layer 24. Conditions: none. -/
import Derived.Test.YthkmpegpmpdhaaaDfZ
import Derived.Deep.OwnRows
import Derived.Deep.LoopGhost
import Derived.Deep.Light
import Derived.Test.YthkmpegpmpdhaaaRows
import Derived.WalkKit
import Derived.WalkSpells
import Derived.WalkLawsBesides
import Derived.Laws.EntriesVeiled
import Derived.ProofKit
import Derived.OpenShut
import Derived.Lib.Hide
import Derived.BigQuiet
import Derived.Deep.QuietTactic
import Derived.Below
import Derived.Laws.OwnMore
import Derived.Deep.AppendLies
import Derived.Deep.Draws
import Derived.Laws.Rows
import Derived.Maps.AppendAt
import Derived.RegionTactic
import Derived.OwnWalk
import Derived.Deep.RegionHeld3
namespace Go.Proofs.Ythkmpegpmpdhaaa.Df
open Go.ChangeShapes Go.WideShapes Go.ChangeAt Go.RowKit
set_option linter.unusedSimpArgs false
set_option linter.unusedVariables false
theorem block_of_add (a : Addr) (n : Nat) : (a.add n).block = a.block := by unfold Addr.add; split <;> rfl
theorem add_of_add (a : Addr) (i j : Nat) : (a.add i).add j = a.add (i + j) := by
  unfold Addr.add
  by_cases hi : i = 0 <;> by_cases hj : j = 0 <;> simp [hi, hj, Nat.add_assoc]

def Reads (w : World) (B size : Nat) (A : Option Addr) (n : Nat) (xs : List Value) : Prop :=
  xs.length = n * size ∧ (0 < n → ∃ ad, A = some ad ∧ ad.block < B ∧ ∀ j u, xs[j]? = some u → w.cell? (ad.add j) = some u)

section
variable {w w' : World} {B B' size n : Nat} {A : Option Addr} {xs : List Value}
theorem Reads.none_ : Reads w B size A 0 [] := ⟨by simp, fun h => absurd h (by omega)⟩
theorem Reads.at_ {k : Nat} (h : Reads w B 1 A n xs) (hk : k < n) : ∃ ad u, A = some ad ∧ ad.block < B ∧ xs[k]? = some u ∧ w.cell? (ad.add k) = some u := by
  obtain ⟨ad, e, hb, hc⟩ := h.2 (by omega)
  have hl : k < xs.length := by have := h.1; omega
  exact ⟨ad, xs[k], e, hb, List.getElem?_eq_getElem hl, hc k _ (List.getElem?_eq_getElem hl)⟩
theorem Reads.keep (h : Reads w B size A n xs) (hk : ∀ p : Addr, p.block < B → w'.cell? p = w.cell? p) : Reads w' B size A n xs :=
  ⟨h.1, fun hn => by
    obtain ⟨ad, e, hb, hc⟩ := h.2 hn
    exact ⟨ad, e, hb, fun j u hu => (hk _ (by rw [block_of_add]; exact hb)).trans (hc j u hu)⟩⟩
theorem Reads.more (h : Reads w B size A n xs) (hB : B ≤ B') : Reads w B' size A n xs :=
  ⟨h.1, fun hn => by
    obtain ⟨ad, e, hb, hc⟩ := h.2 hn
    exact ⟨ad, e, by omega, hc⟩⟩
theorem Reads.below (h : Reads w B size A n xs) (hb : Below B w w') : Reads w' B size A n xs := h.keep fun _ hp => hb.cell hp
theorem Reads.drew (h : Reads w B size A n xs) : Reads w.drew B size A n xs := h
theorem Reads.drewN (h : Reads w B size A n xs) (k : Nat) : Reads (w.drewN k) B size A n xs := h
theorem Reads.alloc (h : Reads w B size A n xs) (hB : B ≤ w.heap.size) (o : Obj) : Reads (w.alloc o) B size A n xs := h.keep fun p hp => World.cell?_alloc_lt w o p (by omega)
theorem Reads.setCell (h : Reads w B size A n xs) {p : Addr} (hB : B ≤ p.block) (u : Value) : Reads (w.setCell p u) B size A n xs :=
  h.keep fun q hq => World.cell?_setCell_other w p q u (fun e => by subst e; omega)
theorem Reads.grown (h : Reads w B size A n xs) {row : Option Nat} (hg : w.grownBy w' row) (hB : B ≤ w.heap.size) (hr : ∀ g, row = some g → B ≤ g) : Reads w' B size A n xs :=
  h.keep fun p hp => World.cell?_of_block (hg.block p.block (by omega) (fun e => by have := hr _ e.symm; omega))
theorem Reads.cut (h : Reads w B size A n xs) {k cap : Nat} (hk : k ≤ n) (hc : n ≤ cap) :
    Reads w B size (if cap = k then A else A.map (·.add (k * size))) (n - k) (xs.drop (k * size)) := by
  refine ⟨by rw [List.length_drop, h.1, Nat.sub_mul], fun hn => ?_⟩
  obtain ⟨ad, rfl, hb, hcell⟩ := h.2 (by omega)
  rw [if_neg (by omega)]
  refine ⟨ad.add (k * size), rfl, by rw [block_of_add]; exact hb, fun j u hu => ?_⟩
  rw [add_of_add]
  exact hcell _ u (by rw [← hu, List.getElem?_drop])
theorem Reads.of_own {base : Nat} {e : TypeId} {c : Nat} (h : w.ownsRow base e size (.slice A n c) n xs) : Reads w w.heap.size size A n xs := by
  refine ⟨h.1, fun hn => ?_⟩
  obtain ⟨g, cap, hv, _, hlt⟩ := h.form hn
  have hA : A = some ⟨g, 0, none⟩ := by injection hv
  subst hA
  exact ⟨_, rfl, hlt, h.cells (g := g) rfl⟩
end

def Blk (w : World) (g : Nat) (t : TypeId) (cs : Array Value) : Prop := w.heap[g]? = some (.cells cs t (0, 0))

section
variable {w w' : World} {g : Nat} {t : TypeId} {cs : Array Value}
theorem Blk.lt (h : Blk w g t cs) : g < w.heap.size := by
  rcases Nat.lt_or_ge g w.heap.size with hlt | hge
  · exact hlt
  · unfold Blk at h; rw [Array.getElem?_eq_none hge] at h; cases h
theorem Blk.cell (h : Blk w g t cs) (i : Nat) : w.cell? ⟨g, i, none⟩ = cs[i]? := cell_of_row w g i cs t (0, 0) h
theorem Blk.frozen (h : Blk w g t cs) (i : Nat) : w.frozen? ⟨g, i, none⟩ = false := by
  unfold Blk at h
  simp [World.frozen?, h]
theorem Blk.new (w : World) (t : TypeId) (cs : Array Value) : Blk (w.alloc (.cells cs t)) w.heap.size t cs := heap_alloc_new w _
theorem Blk.drew (h : Blk w g t cs) : Blk w.drew g t cs := h
theorem Blk.drewN (h : Blk w g t cs) (n : Nat) : Blk (w.drewN n) g t cs := h
theorem Blk.alloc (h : Blk w g t cs) (o : Obj) : Blk (w.alloc o) g t cs := (Below.heap_alloc w o g h.lt).trans h
theorem Blk.set_ (h : Blk w g t cs) (i : Nat) (u : Value) : Blk (w.setCell ⟨g, i, none⟩ u) g t (cs.setIfInBounds i u) := by
  unfold Blk at h ⊢
  simp [World.setCell, Array.getElem?_modify, h]
theorem Blk.far (h : Blk w g t cs) {p : Addr} (hp : g ≠ p.block) (u : Value) : Blk (w.setCell p u) g t cs := (Below.heap_setCell w p u g hp).trans h
theorem Blk.below {B : Nat} (h : Blk w g t cs) (hb : Below B w w') (hg : g < B) : Blk w' g t cs := (hb.block g hg).trans h
theorem Blk.grown {row : Option Nat} (h : Blk w g t cs) (hb : w.grownBy w' row) (hg : some g ≠ row) : Blk w' g t cs := (hb.block g h.lt hg).trans h
theorem Blk.ne_ {g' : Nat} {t' : TypeId} {cs' : Array Value} (h : Blk w g t cs) (h' : Blk w g' t' cs') (hne : t ≠ t') : g ≠ g' := by
  rintro rfl
  unfold Blk at h h'
  rw [h] at h'
  injection h' with h'
  injection h' with _ ht
  exact hne ht
theorem own_blk_ne {base : Nat} {e : TypeId} {size n : Nat} {v : Value} {xs : List Value} (h : w.ownsRow base e size v n xs) (hg : Blk w g t cs) (hne : e ≠ t) : v.ownBlock ≠ some g := by
  rcases h.2 with ⟨rfl, _⟩ | ⟨g', cap, cur, rfl, _, hh, _⟩
  · simp [Value.ownBlock]
  · intro he
    have : g' = g := by simpa [Value.ownBlock] using he
    subst this
    exact Blk.ne_ (t := e) hh hg hne rfl
end

/-- Nothing that was there has turned. -/
def Keeps (w w' : World) : Prop := Below w.heap.size w w'
theorem Keeps.refl (w : World) : Keeps w w := Below.refl _ _
theorem Keeps.trans {a b c : World} (h : Keeps a b) (k : Keeps b c) : Keeps a c := Below.trans h (Below.mono k (Below.size h))
theorem Keeps.alloc {a b : World} (h : Keeps a b) (o : Obj) : Keeps a (b.alloc o) := Below.alloc h (Below.size h) o
theorem Keeps.drew {a b : World} (h : Keeps a b) : Keeps a b.drew := Below.drew h
theorem Keeps.drewN {a b : World} (h : Keeps a b) (n : Nat) : Keeps a (b.drewN n) := ⟨h.os, h.tape, h.output, h.size, h.block⟩

theorem Keeps.setCell {a b : World} (h : Keeps a b) {p : Addr} (hp : a.heap.size ≤ p.block) (u : Value) : Keeps a (b.setCell p u) := Below.setCell h hp u

section
variable {P : Program} (w : World)

theorem run_append_of_nil (base : Nat) (t ty e : TypeId) (i : TypeInfo) (size : Nat) (ht : P.underlying t = some (.slice e)) (hi : P.info? e = some i)
    (v : Value) (n : Nat) (xs : List Value) (hown : w.ownsRow base e size v n xs) (c : Nat) : (Builtin.append_ #[t, t] ty #[v, .slice none 0 c]).run P w = .ok v w := by
  rcases hown.2 with ⟨rfl, rfl⟩ | ⟨g, cap, cur, rfl, _, _, hnc, _⟩
  · simp [Builtin.append_, run_underlying ht, sizeOf, typeInfo, hi, Builtin.lenOf, Builtin.firstCells]
  · simp [Builtin.append_, run_underlying ht, sizeOf, typeInfo, hi, Builtin.lenOf, Builtin.firstCells, hnc, storeCells]

theorem run_append_any (base : Nat) (t ty e : TypeId) (i : TypeInfo) (z : Value) (size bytes : Nat) (ht : P.underlying t = some (.slice e)) (hi : P.info? e = some i) (hz : i.zero = some z)
    (hsize : i.size = size) (hby : i.bytes = bytes) (hzs : z.cells.size = size) (hsz : 0 < size)
    (v : Value) (n : Nat) (xs : List Value) (hown : w.ownsRow base e size v n xs)
    (B : Nat) (A : Option Addr) (m c : Nat) (news : List Value) (hr : Reads w B size A m news) (h1 : ∀ u ∈ news, u.oneCell' = true)
    (h63 : n + m ≤ maxLen) (hbytes : (n + m) * bytes ≤ 140737488355328) (hbase : base ≤ w.heap.size) :
    ∃ v' w', (Builtin.append_ #[t, t] ty #[v, .slice A m c]).run P w = .ok v' w' ∧ w'.ownsRow base e size v' (n + m) (xs ++ news) ∧ w.grownBy w' v.ownBlock ∧
      (v'.ownBlock = v.ownBlock ∨ v'.ownBlock = some w.heap.size) := by
  rcases A with _ | ad
  · have hm : m = 0 := by
      rcases Nat.eq_zero_or_pos m with h0 | h0
      · exact h0
      · obtain ⟨ad, h, _⟩ := hr.2 h0
        cases h
    subst hm
    have hn : news = [] := List.eq_nil_of_length_eq_zero (by simpa using hr.1)
    subst hn
    exact ⟨v, w, run_append_of_nil w base t ty e i size ht hi v n xs hown c, by simpa using hown, World.grownBy.refl w _, .inl rfl⟩
  · have hcells : ∀ j u, news[j]? = some u → w.cell? (ad.add j) = some u := by
      intro j u hu
      rcases Nat.eq_zero_or_pos m with h0 | h0
      · subst h0
        have hn : news = [] := List.eq_nil_of_length_eq_zero (by simpa using hr.1)
        subst hn
        simp at hu
      · obtain ⟨ad', h, _, hc⟩ := hr.2 h0
        injection h with h
        subst h
        exact hc j u hu
    obtain ⟨v', w', hrun, h2, h3, _, h5⟩ := run_append_own_at (P := P) w base t ty e i z size bytes ht hi hz hsize hby hzs hsz v n xs hown ad m c news hr.1 hcells h1 h63 hbytes hbase
    exact ⟨v', w', hrun, h2, h3, h5⟩

theorem wp_append_any {o : Oper} {a : Act} {K : Act → World → Prop} {Q : Exit → Act → World → Prop} (s x : Operand) (t : TypeId)
    (ho : o.op = .call { callee := .builtin .append, args := #[s, x], argTypes := #[t, t] })
    (base : Nat) (e : TypeId) (i : TypeInfo) (z : Value) (size bytes : Nat) (ht : P.underlying t = some (.slice e)) (hi : P.info? e = some i) (hz : i.zero = some z)
    (hsize : i.size = size) (hby : i.bytes = bytes) (hzs : z.cells.size = size) (hsz : 0 < size)
    (v : Value) (n : Nat) (xs : List Value) (hs : a.eval s = v) (hown : w.ownsRow base e size v n xs)
    (B : Nat) (A : Option Addr) (m c : Nat) (news : List Value) (hx : a.eval x = .slice A m c) (hr : Reads w B size A m news) (h1 : ∀ u ∈ news, u.oneCell' = true)
    (h63 : n + m ≤ maxLen) (hbytes : (n + m) * bytes ≤ 140737488355328) (hbase : base ≤ w.heap.size)
    (h : ∀ v' w', w'.ownsRow base e size v' (n + m) (xs ++ news) → w.grownBy w' v.ownBlock → (v'.ownBlock = v.ownBlock ∨ v'.ownBlock = some w.heap.size) → K (a.put o.dst v') w') : o.wp P a w K Q := by
  obtain ⟨v', w', hrun, h2, h3, h4⟩ := run_append_any (P := P) w base t o.type e i z size bytes ht hi hz hsize hby hzs hsz v n xs hown B A m c news hr h1 h63 hbytes hbase
  unfold Oper.wp execOp
  simp only [ho, resolve, invoke, builtin, Sem.run_bind, Sem.run_pure, Result.andThen_ok, List.map_toArray, List.map_cons, List.map_nil, hs, hx, hrun]
  exact h v' w' h2 h3 h4

theorem wpList_append_any {ops : Array Oper} {rest : List Oper} {o : Oper} {a : Act} {Q : Exit → Act → World → Prop} (hgd : o.guard = none) (s x : Operand) (t : TypeId)
    (ho : o.op = .call { callee := .builtin .append, args := #[s, x], argTypes := #[t, t] })
    (base : Nat) (e : TypeId) (i : TypeInfo) (z : Value) (size bytes : Nat) (ht : P.underlying t = some (.slice e)) (hi : P.info? e = some i) (hz : i.zero = some z)
    (hsize : i.size = size) (hby : i.bytes = bytes) (hzs : z.cells.size = size) (hsz : 0 < size)
    (v : Value) (n : Nat) (xs : List Value) (hs : a.eval s = v) (hown : w.ownsRow base e size v n xs)
    (B : Nat) (A : Option Addr) (m c : Nat) (news : List Value) (hx : a.eval x = .slice A m c) (hr : Reads w B size A m news) (h1 : ∀ u ∈ news, u.oneCell' = true)
    (h63 : n + m ≤ maxLen) (hbytes : (n + m) * bytes ≤ 140737488355328) (hbase : base ≤ w.heap.size)
    (h : ∀ v' w', w'.ownsRow base e size v' (n + m) (xs ++ news) → w.grownBy w' v.ownBlock → (v'.ownBlock = v.ownBlock ∨ v'.ownBlock = some w.heap.size) → wpList P ops Q rest (a.put o.dst v') w') : wpList P ops Q (o :: rest) a w :=
  wpList_plain hgd fun _ hK => wp_append_any w s x t ho base e i z size bytes ht hi hz hsize hby hzs hsz v n xs hs hown B A m c news hx hr h1 h63 hbytes hbase fun v' w' h2 h3 h4 => hK _ _ (h v' w' h2 h3 h4)

theorem step_append_any {ops : Array Oper} {o : Oper} {a : Act} {K : Act → World → Prop} {Q : Exit → Act → World → Prop} {E : Prop} (hgd : o.guard = none) (s x : Operand) (t : TypeId)
    (ho : o.op = .call { callee := .builtin .append, args := #[s, x], argTypes := #[t, t] })
    (base : Nat) (e : TypeId) (i : TypeInfo) (z : Value) (size bytes : Nat) (ht : P.underlying t = some (.slice e)) (hi : P.info? e = some i) (hz : i.zero = some z)
    (hsize : i.size = size) (hby : i.bytes = bytes) (hzs : z.cells.size = size) (hsz : 0 < size)
    (v : Value) (n : Nat) (xs : List Value) (hs : a.eval s = v) (hown : w.ownsRow base e size v n xs)
    (B : Nat) (A : Option Addr) (m c : Nat) (news : List Value) (hx : a.eval x = .slice A m c) (hr : Reads w B size A m news) (h1 : ∀ u ∈ news, u.oneCell' = true)
    (h63 : n + m ≤ maxLen) (hbytes : (n + m) * bytes ≤ 140737488355328) (hbase : base ≤ w.heap.size)
    (h : ∀ v' w', w'.ownsRow base e size v' (n + m) (xs ++ news) → w.grownBy w' v.ownBlock → (v'.ownBlock = v.ownBlock ∨ v'.ownBlock = some w.heap.size) → K (a.put o.dst v') w') :
    if Region.wanted o (yielded ops a.tmps) = true then Oper.wp P o a w K Q else E := by
  have hw : Region.wanted o (yielded ops a.tmps) = true := by simp [Region.wanted, hgd]
  rw [if_pos hw]
  exact wp_append_any w s x t ho base e i z size bytes ht hi hz hsize hby hzs hsz v n xs hs hown B A m c news hx hr h1 h63 hbytes hbase h
end
theorem ne_own {g n cap k : Nat} (h : g ≠ k) : some k ≠ (Value.slice (some ⟨g, 0, none⟩) n cap).ownBlock := by
  simp [Value.ownBlock]; exact fun e => h e.symm
theorem own_base {g n cap B : Nat} (h : B ≤ g) : ∀ k, (Value.slice (some ⟨g, 0, none⟩) n cap).ownBlock = some k → B ≤ k := by
  intro k hk; simp [Value.ownBlock] at hk; omega
theorem own_below {w w' : World} {base : Nat} {e : TypeId} {size n B : Nat} {v : Value} {xs : List Value} (h : w.ownsRow base e size v n xs) (hb : Below B w w') (hB : w.heap.size ≤ B) : w'.ownsRow base e size v n xs := by
  refine ⟨h.1, ?_⟩
  rcases h.2 with hn | ⟨g, cap, cur, rfl, hb', hgg, rest⟩
  · exact .inl hn
  · refine .inr ⟨g, cap, cur, rfl, hb', ?_, rest⟩
    have hg : g < w.heap.size := (Array.getElem?_eq_some_iff.1 hgg).1
    rw [hb.block g (by omega)]; exact hgg
theorem own_keeps {w w' : World} {base : Nat} {e : TypeId} {size n : Nat} {v : Value} {xs : List Value} (h : w.ownsRow base e size v n xs) (hb : Keeps w w') : w'.ownsRow base e size v n xs := own_below h hb (Nat.le_refl _)
/-- The worlds in which nothing that is in w has turned. -/
structure After (w : World) where
  val : World
  ok : Keeps w val
instance (w : World) : Nonempty (After w) := ⟨⟨w, Keeps.refl w⟩⟩
theorem wp_region_after {P : Program} {id : Nat} {Q : Exit → Act → World → Prop} {a : Act} {w : World} {l : List Oper} (hm : P.follows .mixedOrders = true) (hB : Region.lexB .any l.toArray = true)
    (h : wpQuiet P l.toArray (fun w' => ∃ X : After w, w' = X.val) (fun a' => ∀ w', (∃ X : After w, w' = X.val) → Q .normal a' w') l a) : (Code.region id l.toArray true).wp P Q a w :=
  wp_region_quiet (C := fun w' => ∃ X : After w, w' = X.val) hm hB ⟨⟨w.drew, (Keeps.refl w).drew⟩, rfl⟩ (by simpa using h)
theorem after_call {P : Program} {f : FuncId} {args : Array Value} {w : World} {X : After w} {v : Value}
    (h : Calls P f args X.val fun e w' => e = .returned v ∧ Keeps X.val w') : Calls P f args X.val fun e w'' => e = .returned v ∧ ∃ Y : After w, w'' = Y.val :=
  h.mono fun _ w' ⟨he, hk⟩ => ⟨he, ⟨w', X.ok.trans hk⟩, rfl⟩
theorem After.cell {w : World} {p : Addr} {v : Value} (h : w.cell? p = some v) (hp : p.block < w.heap.size) (X : After w) : X.val.cell? p = some v := (Below.cell X.ok hp).trans h
theorem cell_of_blk {w : World} {g : Nat} {t : TypeId} {cs : Array Value} (h : Blk w g t cs) (i : Nat) {v : Value} (hv : cs[i]? = some v) : w.cell? ⟨g, i, none⟩ = some v := (h.cell i).trans hv
theorem cell_keep {w w' : World} {p : Addr} {v : Value} (h : w.cell? p = some v) (hk : Keeps w w') : w'.cell? p = some v := (Below.cell hk (World.block_lt_of_cell? w _ h)).trans h
def BoolPost (x : Bool) (w : World) (e : Ending) (w' : World) : Prop := e = .returned (.bool x) ∧ Keeps w w'
theorem bool_post {x y : Bool} {w w' : World} (h : x = y) (hk : Keeps w w') : BoolPost x w (.returned (.bool y)) w' := ⟨by rw [h], hk⟩
/-- The slice with address A holds the numbers l, of kind ik, in a block below B. -/
def Nums (ik : IntKind) (w : World) (B : Nat) (A : Option Addr) (l : List Int) : Prop :=
  ∀ (k : Nat) (x : Int), l[k]? = some x → ∃ b off, A = some ⟨b, off, none⟩ ∧ b < B ∧ w.cell? ⟨b, off + k, none⟩ = some (.int ik x)
section
variable {ik : IntKind} {w w' : World} {B B' : Nat} {A : Option Addr} {l : List Int}
theorem Nums.nil (A : Option Addr) : Nums ik w B A [] := fun k x h => by simp at h
theorem Nums.below (h : Nums ik w B A l) (hb : Below B w w') : Nums ik w' B A l := fun k o hk => by
  obtain ⟨b, off, e, hlt, h0⟩ := h k o hk
  exact ⟨b, off, e, hlt, (hb.cell (p := ⟨b, _, none⟩) hlt).trans h0⟩
theorem Nums.more (h : Nums ik w B A l) (hb : B ≤ B') : Nums ik w B' A l := fun k o hk => by
  obtain ⟨b, off, e, hlt, h0⟩ := h k o hk
  exact ⟨b, off, e, by omega, h0⟩
theorem Nums.keep (h : Nums ik w w.heap.size A l) (hk : Keeps w w') : Nums ik w' w'.heap.size A l := (Nums.below h hk).more (Below.size hk)
def intCells (ik : IntKind) (l : List Int) : List Value := l.map (.int ik)
theorem intCells_at {k : Nat} {x : Int} (h : l[k]? = some x) : (intCells ik l)[k]? = some (.int ik x) := by simp [intCells, h]
theorem Nums.of_blk {g : Nat} {t : TypeId} {cs : Array Value} (h : Blk w g t cs) (hcs : cs.toList = intCells ik l) (hB : g < B) : Nums ik w B (some ⟨g, 0, none⟩) l := fun k x hx => by
  have h0 := intCells_at (ik := ik) hx
  rw [← hcs] at h0
  exact ⟨g, 0, rfl, hB, by rw [Nat.zero_add]; exact (h.cell _).trans (by simpa using h0)⟩
theorem Nums.of_own {base n c : Nat} {e : TypeId} (h : w.ownsRow base e 1 (.slice A n c) n (intCells ik l)) (hn : n = l.length) : Nums ik w w.heap.size A l := fun k x hx => by
  have hk : k < l.length := (List.getElem?_eq_some_iff.1 hx).1
  obtain ⟨g, cap, hv, _, hlt⟩ := h.form (by omega)
  have hA : A = some ⟨g, 0, none⟩ := by injection hv
  subst hA
  have hc := h.cells (g := g) rfl _ _ (intCells_at (ik := ik) hx)
  have fix : (⟨g, 0, none⟩ : Addr).add k = ⟨g, 0 + k, none⟩ := by unfold Addr.add; split <;> simp_all
  rw [fix] at hc
  exact ⟨g, 0, rfl, hlt, hc⟩
theorem Nums.drop {b off : Nat} (h : Nums ik w B (some ⟨b, off, none⟩) l) (k : Nat) : Nums ik w B (some ⟨b, off + k, none⟩) (l.drop k) := fun i x hx => by
  rw [List.getElem?_drop] at hx
  obtain ⟨b', off', e, hb, hc⟩ := h (k + i) x hx
  cases e
  exact ⟨b, off + k, rfl, hb, by rw [Nat.add_assoc]; exact hc⟩
theorem Nums.reads (h : Nums ik w B A l) : Reads w B 1 A l.length (intCells ik l) := by
  refine ⟨by simp [intCells], fun hn => ?_⟩
  obtain ⟨b, off, rfl, hb, -⟩ := h 0 l[0] (List.getElem?_eq_getElem hn)
  refine ⟨_, rfl, hb, fun j u hu => ?_⟩
  have hj : j < l.length := by simpa [intCells] using (List.getElem?_eq_some_iff.1 hu).1
  have hok := List.getElem?_eq_getElem hj
  obtain ⟨b', off', e, -, c0⟩ := h j _ hok
  cases e
  have := intCells_at (ik := ik) hok
  rw [hu] at this
  cases this
  have fix : (⟨b, off, none⟩ : Addr).add j = ⟨b, off + j, none⟩ := by unfold Addr.add; split <;> simp_all
  rw [fix]; exact c0
theorem intCells_one : ∀ u ∈ intCells ik l, u.oneCell' = true := by
  intro u hu
  simp only [intCells, List.mem_map] at hu
  obtain ⟨x, _, rfl⟩ := hu
  rfl
theorem intCells_append {m : List Int} : intCells ik (l ++ m) = intCells ik l ++ intCells ik m := by simp [intCells]
end
theorem ret_int {k : IntKind} {a b : Int} (h : a = b) : Ending.returned (.int k a) = .returned (.int k b) := by rw [h]
theorem own_lt {w : World} {base : Nat} {e : TypeId} {size n g : Nat} {v : Value} {xs : List Value} (h : w.ownsRow base e size v n xs) (hg : v.ownBlock = some g) : base ≤ g ∧ g < w.heap.size := by
  rcases h.2 with ⟨rfl, rfl⟩ | ⟨g', cap, cur, rfl, hb, hh, _⟩
  · simp [Value.ownBlock] at hg
  · simp [Value.ownBlock] at hg; subst hg; exact ⟨hb, (Array.getElem?_eq_some_iff.1 hh).1⟩
theorem own_ne {w : World} {base : Nat} {e : TypeId} {size n k : Nat} {v : Value} {xs : List Value} (h : w.ownsRow base e size v n xs) (hk : k < base) : some k ≠ v.ownBlock := by
  intro e
  have := own_lt h e.symm
  omega
theorem some_ne {a b : Nat} (h : a ≠ b) : some a ≠ some b := fun e => h (Option.some.inj e)
theorem own_slice {w : World} {base : Nat} {e : TypeId} {size n : Nat} {v : Value} {xs : List Value} (h : w.ownsRow base e size v n xs) : ∃ A c, v = .slice A n c := by
  rcases h.2 with ⟨rfl, rfl⟩ | ⟨g', cap, cur, rfl, hb, hh, _⟩
  · exact ⟨none, 0, rfl⟩
  · exact ⟨_, _, rfl⟩
theorem grown_keeps {a b c : World} {row : Option Nat} (h : Keeps a b) (hg : b.grownBy c row) (hr : ∀ k, row = some k → a.heap.size ≤ k) : Keeps a c := Below.grown h hg h.size hr
theorem info3a : (Try.prog.info? 3).map (fun i => (i.size, i.bytes, i.zero)) = some (1, 8, some (.int .i64 0)) := by kernel_rfl
theorem info3 : ∃ i, Try.prog.info? 3 = some i ∧ i.zero = some (.int .i64 0) ∧ i.size = 1 ∧ i.bytes = 8 := by
  have h := info3a
  cases hi : Try.prog.info? 3 with
  | none => rw [hi] at h; cases h
  | some i =>
    rw [hi] at h
    simp only [Option.map_some, Option.some.injEq, Prod.mk.injEq] at h
    exact ⟨i, rfl, h.2.2, h.1, h.2.1⟩
/-- A slice that reads as the list l. -/
def ListPost (l : List Int) (w : World) (e : Ending) (w' : World) : Prop := ∃ A c, e = .returned (.slice A l.length c) ∧ Nums .i64 w' w'.heap.size A l ∧ Keeps w w'
theorem list_own {w w' : World} {base : Nat} {n : Nat} {v : Value} {l : List Int} (h : w'.ownsRow base 3 1 v n (intCells .i64 l)) (hk : Keeps w w') : ListPost l w (.returned v) w' := by
  have hn : n = l.length := by have := h.1; simpa [intCells] using this.symm
  obtain ⟨A, c, rfl⟩ := own_slice h
  exact ⟨A, c, by rw [hn], Nums.of_own h hn, hk⟩

theorem take_all {α : Type} {l : List α} {k : Nat} (h : l.length ≤ k) : l.take k = l := List.take_of_length_le h
theorem own_grown {w w' : World} {base : Nat} {e : TypeId} {size n : Nat} {v : Value} {xs : List Value} {row : Option Nat} (h : w.ownsRow base e size v n xs) (hg : w.grownBy w' row) (hne : ∀ k, v.ownBlock = some k → row ≠ some k) : w'.ownsRow base e size v n xs := by
  refine ⟨h.1, ?_⟩
  rcases h.2 with hn | ⟨g, cap, cur, rfl, hb', hgg, rest⟩
  · exact .inl hn
  · refine .inr ⟨g, cap, cur, rfl, hb', ?_, rest⟩
    have hlt : g < w.heap.size := (Array.getElem?_eq_some_iff.1 hgg).1
    rw [hg.block g hlt (fun e => hne g rfl e.symm)]; exact hgg
theorem own_weak {w : World} {base base' : Nat} {e : TypeId} {size n : Nat} {v : Value} {xs : List Value} (h : w.ownsRow base e size v n xs) (hb : base' ≤ base) : w.ownsRow base' e size v n xs := by
  refine ⟨h.1, ?_⟩
  rcases h.2 with hn | ⟨g, cap, cur, rfl, hb', rest⟩
  · exact .inl hn
  · exact .inr ⟨g, cap, cur, rfl, Nat.le_trans hb hb', rest⟩
theorem own_own_ne {w : World} {base base' : Nat} {e e' : TypeId} {size size' n n' : Nat} {v v' : Value} {xs xs' : List Value} (h : w.ownsRow base e size v n xs) (h' : w.ownsRow base' e' size' v' n' xs') (hne : e ≠ e') :
    ∀ k, v.ownBlock = some k → v'.ownBlock ≠ some k := by
  intro k hk hk'
  rcases h.2 with ⟨rfl, _⟩ | ⟨g, cap, cur, rfl, _, hgg, _⟩
  · simp [Value.ownBlock] at hk
  rcases h'.2 with ⟨rfl, _⟩ | ⟨g', cap', cur', rfl, _, hgg', _⟩
  · simp [Value.ownBlock] at hk'
  simp [Value.ownBlock] at hk hk'
  subst hk; subst hk'
  rw [hgg] at hgg'
  injection hgg' with h1
  injection h1 with _ h2
  exact hne h2
/-- The slice with address A holds the lists ls. -/
def NumRows (w : World) (B : Nat) (A : Option Addr) (ls : List (List Int)) : Prop :=
  ∀ (k : Nat) (l : List Int), ls[k]? = some l → ∃ b off A' c', A = some ⟨b, off, none⟩ ∧ b < B ∧ w.cell? ⟨b, off + k, none⟩ = some (.slice A' l.length (l.length + c')) ∧ Nums .i64 w B A' l
section
variable {w w' : World} {B B' : Nat} {A : Option Addr} {ls : List (List Int)}
theorem NumRows.below (h : NumRows w B A ls) (hb : Below B w w') : NumRows w' B A ls := fun k l hk => by
  obtain ⟨b, off, A', c', e, hlt, h0, h1⟩ := h k l hk
  exact ⟨b, off, A', c', e, hlt, (hb.cell (p := ⟨b, _, none⟩) hlt).trans h0, h1.below hb⟩
theorem NumRows.more (h : NumRows w B A ls) (hb : B ≤ B') : NumRows w B' A ls := fun k l hk => by
  obtain ⟨b, off, A', c', e, hlt, h0, h1⟩ := h k l hk
  exact ⟨b, off, A', c', e, by omega, h0, h1.more hb⟩
theorem NumRows.keep (h : NumRows w w.heap.size A ls) (hk : Keeps w w') : NumRows w' w'.heap.size A ls := (NumRows.below h hk).more (Below.size hk)
end
theorem nums_lit (w : World) (l : List Int) (cs : Array Value) (h : cs.toList = intCells .i64 l) : Nums .i64 (w.alloc (.cells cs 3)) (w.alloc (.cells cs 3)).heap.size (some ⟨w.heap.size, 0, none⟩) l :=
  Nums.of_blk (Blk.new w 3 cs) h (by simp)
theorem info3' : (Try.prog.info? 3).map (fun i => (i.zero, i.size, i.bytes)) = some (some (.int .i64 0), 1, 8) := by kernel_rfl
theorem info30' : (Try.prog.info? 28).map (fun i => (i.zero, i.size, i.bytes)) = some (some (.slice none 0 0), 1, 24) := by kernel_rfl
theorem Nums.of_row {w : World} {g t n : Nat} {f : Nat → Int} {l : List Int} (h : w.rowIs g t n (fun i => .int .i64 (f i))) (hn : l.length = n) (hf : ∀ k x, l[k]? = some x → x = f k) : Nums .i64 w w.heap.size (some ⟨g, 0, none⟩) l := fun k x hx => by
  have hk : k < n := by rw [← hn]; exact (List.getElem?_eq_some_iff.1 hx).1
  exact ⟨g, 0, rfl, h.lt, by rw [Nat.zero_add, h.cell hk, hf k x hx]⟩
theorem rowIs_keeps {w w' : World} {b t n : Nat} {f : Nat → Value} (h : w.rowIs b t n f) (hk : Keeps w w') : w'.rowIs b t n f := h.of_block (hk.block b h.lt)
theorem rowIs_grown {w w' : World} {b t n : Nat} {f : Nat → Value} {row : Option Nat} (h : w.rowIs b t n f) (hg : w.grownBy w' row) (hr : row ≠ some b) : w'.rowIs b t n f := h.of_block (hg.block b h.lt (fun e => hr e.symm))
theorem own_row_ne {w : World} {base : Nat} {e : TypeId} {size n b t m : Nat} {v : Value} {xs : List Value} {f : Nat → Value} (h : w.ownsRow base e size v n xs) (hr : w.rowIs b t m f) (hne : e ≠ t) : v.ownBlock ≠ some b := by
  obtain ⟨c, hb, _, _⟩ := hr
  exact own_blk_ne h (show Blk w b t c from hb) hne
theorem own_setCell {w : World} {base : Nat} {e : TypeId} {size n : Nat} {v : Value} {xs : List Value} (h : w.ownsRow base e size v n xs) {p : Addr} (hp : v.ownBlock ≠ some p.block) (u : Value) : (w.setCell p u).ownsRow base e size v n xs := by
  refine ⟨h.1, ?_⟩
  rcases h.2 with hn | ⟨g, cap, cur, rfl, hb', hgg, rest⟩
  · exact .inl hn
  · refine .inr ⟨g, cap, cur, rfl, hb', ?_, rest⟩
    rw [Below.heap_setCell w p u g (fun e => hp (by simp [Value.ownBlock, e]))]; exact hgg
theorem reads_lit (w : World) (v : Value) (t : TypeId) : Reads (w.alloc (.cells #[v] t)) (w.heap.size + 1) 1 (some ⟨w.heap.size, 0, none⟩) 1 [v] := by
  refine ⟨rfl, fun _ => ⟨_, rfl, by simp, fun j u hu => ?_⟩⟩
  match j, hu with
  | 0, hu => simp at hu; subst hu; exact (Blk.new w t #[v]).cell 0
/-- The slice with address A holds the bounds l. -/
def Bnds (w : World) (B : Nat) (A : Option Addr) (l : List Bd) : Prop :=
  ∀ (k : Nat) (o : Bd), l[k]? = some o → ∃ b off, A = some ⟨b, off, none⟩ ∧ b < B ∧
    w.cell? ⟨b, off + k * 3, none⟩ = some (.int .i64 o.f) ∧ w.cell? ⟨b, off + k * 3 + 1, none⟩ = some (.int .i64 o.t) ∧ w.cell? ⟨b, off + k * 3 + 2, none⟩ = some (.int .i64 o.m)
theorem Bnds.below {w w' : World} {B : Nat} {A : Option Addr} {l : List Bd} (h : Bnds w B A l) (hb : Below B w w') : Bnds w' B A l := fun k o hk => by
  obtain ⟨b, off, e, hlt, h0, h1, h2⟩ := h k o hk
  exact ⟨b, off, e, hlt, (hb.cell (p := ⟨b, _, none⟩) hlt).trans h0, (hb.cell (p := ⟨b, _, none⟩) hlt).trans h1, (hb.cell (p := ⟨b, _, none⟩) hlt).trans h2⟩
theorem Bnds.more {w : World} {B B' : Nat} {A : Option Addr} {l : List Bd} (h : Bnds w B A l) (hb : B ≤ B') : Bnds w B' A l := fun k o hk => by
  obtain ⟨b, off, e, hlt, h0⟩ := h k o hk
  exact ⟨b, off, e, by omega, h0⟩
theorem Bnds.keep {w w' : World} {A : Option Addr} {l : List Bd} (h : Bnds w w.heap.size A l) (hk : Keeps w w') : Bnds w' w'.heap.size A l := (Bnds.below h hk).more (Below.size hk)
def bdCells (l : List Bd) : List Value := l.flatMap fun o => [.int .i64 o.f, .int .i64 o.t, .int .i64 o.m]
theorem bdCells_length (l : List Bd) : (bdCells l).length = l.length * 3 := by
  unfold bdCells; induction l with
  | nil => rfl
  | cons a l ih => simp only [List.flatMap_cons, List.length_append, ih]; simp; omega
theorem bdCells_append (l m : List Bd) : bdCells (l ++ m) = bdCells l ++ bdCells m := by simp [bdCells]
theorem bdCells_at : ∀ (l : List Bd) (k : Nat) (o : Bd), l[k]? = some o → (bdCells l)[k * 3]? = some (.int .i64 o.f) ∧ (bdCells l)[k * 3 + 1]? = some (.int .i64 o.t) ∧ (bdCells l)[k * 3 + 2]? = some (.int .i64 o.m)
  | [], _, _, h => by simp at h
  | a :: l, 0, p, h => by simp at h; subst h; simp [bdCells]
  | a :: l, k + 1, p, h => by
    have := bdCells_at l k p (by simpa using h)
    unfold bdCells at *
    simp only [List.flatMap_cons, List.cons_append, List.nil_append]
    rw [show (k + 1) * 3 = k * 3 + 3 by omega]
    exact ⟨this.1, this.2.1, this.2.2⟩
theorem Bnds.of_blk {w : World} {g B : Nat} {t : TypeId} {l : List Bd} {cs : Array Value} (h : Blk w g t cs) (hcs : cs.toList = bdCells l) (hB : g < B) : Bnds w B (some ⟨g, 0, none⟩) l := fun k o hk => by
  obtain ⟨h0, h1, h2⟩ := bdCells_at l k o hk
  rw [← hcs] at h0 h1 h2
  simp only [Array.getElem?_toList] at h0 h1 h2
  exact ⟨g, 0, rfl, hB, by rw [Nat.zero_add, h.cell]; exact h0, by rw [Nat.zero_add, h.cell]; exact h1, by rw [Nat.zero_add, h.cell]; exact h2⟩
theorem Bnds.of_own {w : World} {base : Nat} {A : Option Addr} {n c : Nat} {l : List Bd} (h : w.ownsRow base 103 3 (.slice A n c) n (bdCells l)) (hn : n = l.length) : Bnds w w.heap.size A l := fun k o hk => by
  have hkl : k < l.length := (List.getElem?_eq_some_iff.1 hk).1
  obtain ⟨g, cap, hv, _, hlt⟩ := h.form (by omega)
  have hA : A = some ⟨g, 0, none⟩ := by injection hv
  subst hA
  have hc := h.cells (g := g) rfl
  obtain ⟨h0, h1, h2⟩ := bdCells_at l k o hk
  have fix : ∀ j, (⟨g, 0, none⟩ : Addr).add j = ⟨g, 0 + j, none⟩ := fun j => by unfold Addr.add; split <;> simp_all
  have c0 := hc _ _ h0; have c1 := hc _ _ h1; have c2 := hc _ _ h2
  rw [fix] at c0 c1 c2
  exact ⟨g, 0, rfl, hlt, c0, c1, c2⟩
theorem Bnds.reads {w : World} {B : Nat} {A : Option Addr} {l : List Bd} (h : Bnds w B A l) : Reads w B 3 A l.length (bdCells l) := by
  refine ⟨bdCells_length l, fun hn => ?_⟩
  obtain ⟨b, off, rfl, hb, -⟩ := h 0 l[0] (List.getElem?_eq_getElem hn)
  refine ⟨_, rfl, hb, fun j u hu => ?_⟩
  have hj : j < l.length * 3 := by have := (List.getElem?_eq_some_iff.1 hu).1; rwa [bdCells_length] at this
  obtain ⟨q, r, hr, rfl⟩ : ∃ q r, r < 3 ∧ j = q * 3 + r := ⟨j / 3, j % 3, Nat.mod_lt _ (by decide), by omega⟩
  have hq : q < l.length := by omega
  have hok := List.getElem?_eq_getElem (l := l) (i := q) hq
  generalize l[q] = o at hok
  obtain ⟨b', off', e, -, c0, c1, c2⟩ := h q o hok
  cases e
  obtain ⟨h0, h1, h2⟩ := bdCells_at l _ _ hok
  have fix : ∀ j, (⟨b, off, none⟩ : Addr).add j = ⟨b, off + j, none⟩ := fun j => by unfold Addr.add; split <;> simp_all
  rw [fix]
  rcases (by omega : r = 0 ∨ r = 1 ∨ r = 2) with rfl | rfl | rfl
  · rw [Nat.add_zero] at hu ⊢
    rw [hu] at h0; cases h0; exact c0
  · rw [h1] at hu; cases hu; rw [← Nat.add_assoc]; exact c1
  · rw [h2] at hu; cases hu; rw [← Nat.add_assoc]; exact c2
theorem bdCells_one (l : List Bd) : ∀ u ∈ bdCells l, u.oneCell' = true := by
  intro u hu
  simp only [bdCells, List.mem_flatMap] at hu
  obtain ⟨o, _, hu⟩ := hu
  simp at hu
  rcases hu with rfl | rfl | rfl <;> rfl
end Go.Proofs.Ythkmpegpmpdhaaa.Df
