/- Contracts of the functions of layer 7 and of their reference. Conditions: none. -/
import Derived.Test.YtajobinkabdmkaaRows
import Derived.WalkKit
import Derived.WalkSpells
import Derived.WalkLawsBesides
import Derived.Laws.EntriesVeiled
import Derived.ProofKit
import Derived.OpenShut
import Derived.Lib.Hide
import Derived.BigQuiet
import Derived.Deep.QuietTactic
import Derived.Below
import Derived.Laws.OwnMore
import Derived.Deep.AppendLies
import Derived.Deep.Draws
import Derived.Laws.Rows
import Derived.Maps.AppendAt
import Derived.RegionTactic
import Derived.OwnWalk
import Derived.Deep.RegionHeld3
namespace Go.Proofs.Ytajobinkabdmkaa
open Go.ChangeShapes Go.WideShapes Go.ChangeAt Go.RowKit
set_option linter.unusedSimpArgs false
set_option linter.unusedVariables false
theorem block_of_add (a : Addr) (n : Nat) : (a.add n).block = a.block := by unfold Addr.add; split <;> rfl
theorem add_of_add (a : Addr) (i j : Nat) : (a.add i).add j = a.add (i + j) := by
  unfold Addr.add
  by_cases hi : i = 0 <;> by_cases hj : j = 0 <;> simp [hi, hj, Nat.add_assoc]

def Reads (w : World) (B size : Nat) (A : Option Addr) (n : Nat) (xs : List Value) : Prop :=
  xs.length = n * size ∧ (0 < n → ∃ ad, A = some ad ∧ ad.block < B ∧ ∀ j u, xs[j]? = some u → w.cell? (ad.add j) = some u)

section
variable {w w' : World} {B B' size n : Nat} {A : Option Addr} {xs : List Value}
theorem Reads.none_ : Reads w B size A 0 [] := ⟨by simp, fun h => absurd h (by omega)⟩
theorem Reads.at_ {k : Nat} (h : Reads w B 1 A n xs) (hk : k < n) : ∃ ad u, A = some ad ∧ ad.block < B ∧ xs[k]? = some u ∧ w.cell? (ad.add k) = some u := by
  obtain ⟨ad, e, hb, hc⟩ := h.2 (by omega)
  have hl : k < xs.length := by have := h.1; omega
  exact ⟨ad, xs[k], e, hb, List.getElem?_eq_getElem hl, hc k _ (List.getElem?_eq_getElem hl)⟩
theorem Reads.keep (h : Reads w B size A n xs) (hk : ∀ p : Addr, p.block < B → w'.cell? p = w.cell? p) : Reads w' B size A n xs :=
  ⟨h.1, fun hn => by
    obtain ⟨ad, e, hb, hc⟩ := h.2 hn
    exact ⟨ad, e, hb, fun j u hu => (hk _ (by rw [block_of_add]; exact hb)).trans (hc j u hu)⟩⟩
theorem Reads.more (h : Reads w B size A n xs) (hB : B ≤ B') : Reads w B' size A n xs :=
  ⟨h.1, fun hn => by
    obtain ⟨ad, e, hb, hc⟩ := h.2 hn
    exact ⟨ad, e, by omega, hc⟩⟩
theorem Reads.below (h : Reads w B size A n xs) (hb : Below B w w') : Reads w' B size A n xs := h.keep fun _ hp => hb.cell hp
theorem Reads.drew (h : Reads w B size A n xs) : Reads w.drew B size A n xs := h
theorem Reads.drewN (h : Reads w B size A n xs) (k : Nat) : Reads (w.drewN k) B size A n xs := h
theorem Reads.alloc (h : Reads w B size A n xs) (hB : B ≤ w.heap.size) (o : Obj) : Reads (w.alloc o) B size A n xs := h.keep fun p hp => World.cell?_alloc_lt w o p (by omega)
theorem Reads.setCell (h : Reads w B size A n xs) {p : Addr} (hB : B ≤ p.block) (u : Value) : Reads (w.setCell p u) B size A n xs :=
  h.keep fun q hq => World.cell?_setCell_other w p q u (fun e => by subst e; omega)
theorem Reads.grown (h : Reads w B size A n xs) {row : Option Nat} (hg : w.grownBy w' row) (hB : B ≤ w.heap.size) (hr : ∀ g, row = some g → B ≤ g) : Reads w' B size A n xs :=
  h.keep fun p hp => World.cell?_of_block (hg.block p.block (by omega) (fun e => by have := hr _ e.symm; omega))
theorem Reads.cut (h : Reads w B size A n xs) {k cap : Nat} (hk : k ≤ n) (hc : n ≤ cap) :
    Reads w B size (if cap = k then A else A.map (·.add (k * size))) (n - k) (xs.drop (k * size)) := by
  refine ⟨by rw [List.length_drop, h.1, Nat.sub_mul], fun hn => ?_⟩
  obtain ⟨ad, rfl, hb, hcell⟩ := h.2 (by omega)
  rw [if_neg (by omega)]
  refine ⟨ad.add (k * size), rfl, by rw [block_of_add]; exact hb, fun j u hu => ?_⟩
  rw [add_of_add]
  exact hcell _ u (by rw [← hu, List.getElem?_drop])
theorem Reads.of_own {base : Nat} {e : TypeId} {c : Nat} (h : w.ownsRow base e size (.slice A n c) n xs) : Reads w w.heap.size size A n xs := by
  refine ⟨h.1, fun hn => ?_⟩
  obtain ⟨g, cap, hv, _, hlt⟩ := h.form hn
  have hA : A = some ⟨g, 0, none⟩ := by injection hv
  subst hA
  exact ⟨_, rfl, hlt, h.cells (g := g) rfl⟩
end

def Blk (w : World) (g : Nat) (t : TypeId) (cs : Array Value) : Prop := w.heap[g]? = some (.cells cs t (0, 0))

section
variable {w w' : World} {g : Nat} {t : TypeId} {cs : Array Value}
theorem Blk.lt (h : Blk w g t cs) : g < w.heap.size := by
  rcases Nat.lt_or_ge g w.heap.size with hlt | hge
  · exact hlt
  · unfold Blk at h; rw [Array.getElem?_eq_none hge] at h; cases h
theorem Blk.cell (h : Blk w g t cs) (i : Nat) : w.cell? ⟨g, i, none⟩ = cs[i]? := cell_of_row w g i cs t (0, 0) h
theorem Blk.frozen (h : Blk w g t cs) (i : Nat) : w.frozen? ⟨g, i, none⟩ = false := by
  unfold Blk at h
  simp [World.frozen?, h]
theorem Blk.new (w : World) (t : TypeId) (cs : Array Value) : Blk (w.alloc (.cells cs t)) w.heap.size t cs := heap_alloc_new w _
theorem Blk.drew (h : Blk w g t cs) : Blk w.drew g t cs := h
theorem Blk.drewN (h : Blk w g t cs) (n : Nat) : Blk (w.drewN n) g t cs := h
theorem Blk.alloc (h : Blk w g t cs) (o : Obj) : Blk (w.alloc o) g t cs := (Below.heap_alloc w o g h.lt).trans h
theorem Blk.set_ (h : Blk w g t cs) (i : Nat) (u : Value) : Blk (w.setCell ⟨g, i, none⟩ u) g t (cs.setIfInBounds i u) := by
  unfold Blk at h ⊢
  simp [World.setCell, Array.getElem?_modify, h]
theorem Blk.far (h : Blk w g t cs) {p : Addr} (hp : g ≠ p.block) (u : Value) : Blk (w.setCell p u) g t cs := (Below.heap_setCell w p u g hp).trans h
theorem Blk.below {B : Nat} (h : Blk w g t cs) (hb : Below B w w') (hg : g < B) : Blk w' g t cs := (hb.block g hg).trans h
theorem Blk.grown {row : Option Nat} (h : Blk w g t cs) (hb : w.grownBy w' row) (hg : some g ≠ row) : Blk w' g t cs := (hb.block g h.lt hg).trans h
theorem Blk.ne_ {g' : Nat} {t' : TypeId} {cs' : Array Value} (h : Blk w g t cs) (h' : Blk w g' t' cs') (hne : t ≠ t') : g ≠ g' := by
  rintro rfl
  unfold Blk at h h'
  rw [h] at h'
  injection h' with h'
  injection h' with _ ht
  exact hne ht
theorem own_blk_ne {base : Nat} {e : TypeId} {size n : Nat} {v : Value} {xs : List Value} (h : w.ownsRow base e size v n xs) (hg : Blk w g t cs) (hne : e ≠ t) : v.ownBlock ≠ some g := by
  rcases h.2 with ⟨rfl, _⟩ | ⟨g', cap, cur, rfl, _, hh, _⟩
  · simp [Value.ownBlock]
  · intro he
    have : g' = g := by simpa [Value.ownBlock] using he
    subst this
    exact Blk.ne_ (t := e) hh hg hne rfl
end

/-- Nothing that was there has turned. -/
def Keeps (w w' : World) : Prop := Below w.heap.size w w'
theorem Keeps.refl (w : World) : Keeps w w := Below.refl _ _
theorem Keeps.trans {a b c : World} (h : Keeps a b) (k : Keeps b c) : Keeps a c := Below.trans h (Below.mono k (Below.size h))
theorem Keeps.alloc {a b : World} (h : Keeps a b) (o : Obj) : Keeps a (b.alloc o) := Below.alloc h (Below.size h) o
theorem Keeps.drew {a b : World} (h : Keeps a b) : Keeps a b.drew := Below.drew h
theorem Keeps.drewN {a b : World} (h : Keeps a b) (n : Nat) : Keeps a (b.drewN n) := ⟨h.os, h.tape, h.output, h.size, h.block⟩

theorem Keeps.setCell {a b : World} (h : Keeps a b) {p : Addr} (hp : a.heap.size ≤ p.block) (u : Value) : Keeps a (b.setCell p u) := Below.setCell h hp u

abbrev Pt := Int × Int
structure Ordr where
  f : Pt
  t : Pt
  a : Int
  z : Int
def ptB (p : Pt) : Bool := decide (0 ≤ p.1) && decide (0 ≤ p.2)

/-- The worlds in which nothing that is in w has turned. -/
structure After (w : World) where
  val : World
  ok : Keeps w val
instance (w : World) : Nonempty (After w) := ⟨⟨w, Keeps.refl w⟩⟩
theorem wp_region_after {P : Program} {id : Nat} {Q : Exit → Act → World → Prop} {a : Act} {w : World} {l : List Oper} (hm : P.follows .mixedOrders = true) (hB : Region.lexB .any l.toArray = true)
    (h : wpQuiet P l.toArray (fun w' => ∃ X : After w, w' = X.val) (fun a' => ∀ w', (∃ X : After w, w' = X.val) → Q .normal a' w') l a) : (Code.region id l.toArray true).wp P Q a w :=
  wp_region_quiet (C := fun w' => ∃ X : After w, w' = X.val) hm hB ⟨⟨w.drew, (Keeps.refl w).drew⟩, rfl⟩ (by simpa using h)
theorem after_call {P : Program} {f : FuncId} {args : Array Value} {w : World} {X : After w} {v : Value}
    (h : Calls P f args X.val fun e w' => e = .returned v ∧ Keeps X.val w') : Calls P f args X.val fun e w'' => e = .returned v ∧ ∃ Y : After w, w'' = Y.val :=
  h.mono fun _ w' ⟨he, hk⟩ => ⟨he, ⟨w', X.ok.trans hk⟩, rfl⟩
theorem After.cell {w : World} {p : Addr} {v : Value} (h : w.cell? p = some v) (hp : p.block < w.heap.size) (X : After w) : X.val.cell? p = some v := (Below.cell X.ok hp).trans h
theorem isPoint_any (x y : Int) (w : World) :
    Calls Try.prog 21 #[.agg #[.int .i64 x, .int .i64 y]] w fun e w' => e = .returned (.bool (ptB (x, y))) ∧ Keeps w w' := by
  by_cases h0 : 0 ≤ x
  · by_cases h1 : 0 ≤ y
    · have E : ptB (x, y) = true := by simp [ptB, h0, h1]
      rw [E]; clear E
      go_enter Try.func21, Try.ntmps21
      go_wp2
      go_ret
      exact ⟨rfl, (Keeps.refl _).alloc _⟩
    · have E : ptB (x, y) = false := by simp [ptB]; omega
      have h2 : decide (0 ≤ y) = false := by simp; omega
      rw [E]; clear E
      go_enter Try.func21, Try.ntmps21
      go_wp2
      go_ret
      exact ⟨rfl, (Keeps.refl _).alloc _⟩
  · have E : ptB (x, y) = false := by simp [ptB]; omega
    rw [E]; clear E
    go_enter Try.func21, Try.ntmps21
    go_wp2
    go_ret
    exact ⟨rfl, (Keeps.refl _).alloc _⟩
theorem point_any (x y : Int) (w : World) :
    Calls Try.prog 22 #[.agg #[.int .i64 x, .int .i64 y]] w fun e w' => e = .returned (.bool (ptB (x, y))) ∧ Keeps w w' := by
  by_cases h0 : 0 ≤ x
  · by_cases h1 : 0 ≤ y
    · have E : ptB (x, y) = true := by simp [ptB, h0, h1]
      rw [E]; clear E
      go_enter Try.func22, Try.ntmps22
      go_wp2
      go_ret
      exact ⟨rfl, (Keeps.refl _).alloc _⟩
    · have E : ptB (x, y) = false := by simp [ptB]; omega
      have h2 : decide (0 ≤ y) = false := by simp; omega
      rw [E]; clear E
      go_enter Try.func22, Try.ntmps22
      go_wp2
      go_ret
      exact ⟨rfl, (Keeps.refl _).alloc _⟩
  · have E : ptB (x, y) = false := by simp [ptB]; omega
    rw [E]; clear E
    go_enter Try.func22, Try.ntmps22
    go_wp2
    go_ret
    exact ⟨rfl, (Keeps.refl _).alloc _⟩
/-- The slice with address A holds the orders l, in a block below B. -/
def Ords (w : World) (B : Nat) (A : Option Addr) (l : List Ordr) : Prop :=
  ∀ (k : Nat) (o : Ordr), l[k]? = some o → ∃ b off, A = some ⟨b, off, none⟩ ∧ b < B ∧
    w.cell? ⟨b, off + k * 6, none⟩ = some (.int .i64 o.f.1) ∧ w.cell? ⟨b, off + k * 6 + 1, none⟩ = some (.int .i64 o.f.2) ∧
    w.cell? ⟨b, off + k * 6 + 2, none⟩ = some (.int .i64 o.t.1) ∧ w.cell? ⟨b, off + k * 6 + 3, none⟩ = some (.int .i64 o.t.2) ∧
    w.cell? ⟨b, off + k * 6 + 4, none⟩ = some (.int .i64 o.a) ∧ w.cell? ⟨b, off + k * 6 + 5, none⟩ = some (.int .i64 o.z)
theorem Ords.below {w w' : World} {B : Nat} {A : Option Addr} {l : List Ordr} (h : Ords w B A l) (hb : Below B w w') : Ords w' B A l := fun k o hk => by
  obtain ⟨b, off, e, hlt, h0, h1, h2, h3, h4, h5⟩ := h k o hk
  exact ⟨b, off, e, hlt, (hb.cell (p := ⟨b, _, none⟩) hlt).trans h0, (hb.cell (p := ⟨b, _, none⟩) hlt).trans h1, (hb.cell (p := ⟨b, _, none⟩) hlt).trans h2, (hb.cell (p := ⟨b, _, none⟩) hlt).trans h3, (hb.cell (p := ⟨b, _, none⟩) hlt).trans h4, (hb.cell (p := ⟨b, _, none⟩) hlt).trans h5⟩

theorem run_eq_pt (a b c d : Int) (w : World) : (Op.equalIn 10000 24 (.agg #[.int .i64 a, .int .i64 b]) (.agg #[.int .i64 c, .int .i64 d])).run Try.prog w = .ok (a == c && b == d) w := by
  have u3 := Try.underlying3
  have a3 := Try.isAgg3
  have z3 := Try.sizeOf3
  have hS : Try.prog.underlying 24 = some (.struct (Try.prog.fieldsOf 24)) := by kernel_rfl
  have hp : Try.prog.stoodInHeld 24 = false := by kernel_rfl
  rw [show (10000 : Nat) = 9999 + 1 from rfl, run_equalIn_agg w 9999 24 _ _ hS hp]
  simp only [Program.fieldsOf, Try.underlying24]
  go_simp
  by_cases h1 : a = c <;> by_cases h2 : b = d <;> simp [h1, h2]
theorem Ords.more {w : World} {B B' : Nat} {A : Option Addr} {l : List Ordr} (h : Ords w B A l) (hb : B ≤ B') : Ords w B' A l := fun k o hk => by
  obtain ⟨b, off, e, hlt, h0⟩ := h k o hk
  exact ⟨b, off, e, by omega, h0⟩

def hitB (d : Int) (p : Pt) (o : Ordr) : Bool := o.f == p && decide (o.a ≤ d) && decide (d ≤ o.z)
def nextF (l : List Ordr) (d : Int) (p : Pt) : Option Pt := (l.find? (hitB d p)).map (·.t)
def ptV (p : Pt) : Value := .agg #[.int .i64 p.1, .int .i64 p.2]
def NextPost (l : List Ordr) (d : Int) (p : Pt) (w : World) (e : Ending) (w' : World) : Prop :=
  e = .returned (.tuple #[.agg #[.int .i64 ((nextF l d p).getD p).1, .int .i64 ((nextF l d p).getD p).2], .bool (nextF l d p).isSome]) ∧ Keeps w w'
theorem cell_of_blk {w : World} {g : Nat} {t : TypeId} {cs : Array Value} (h : Blk w g t cs) (i : Nat) {v : Value} (hv : cs[i]? = some v) : w.cell? ⟨g, i, none⟩ = some v := (h.cell i).trans hv
theorem find_none_take {l : List Ordr} {d : Int} {p : Pt} {k : Nat} (h : (l.take k).find? (hitB d p) = none) {o : Ordr} (ho : l[k]? = some o) (hn : hitB d p o = false) : (l.take (k+1)).find? (hitB d p) = none := by
  rw [List.take_add_one, ho]; simp at h ⊢; exact ⟨h, hn⟩
theorem find_some_take {l : List Ordr} {d : Int} {p : Pt} {k : Nat} (h : (l.take k).find? (hitB d p) = none) {o : Ordr} (ho : l[k]? = some o) (hn : hitB d p o = true) : nextF l d p = some o.t := by
  have : l.find? (hitB d p) = some o := by
    rw [← List.take_append_drop k l, List.find?_append, h]
    have hd : l.drop k = o :: l.drop (k+1) := by
      rw [List.drop_eq_getElem?_toList_append]; simp [ho]
    rw [hd]; simp [hn]
  simp [nextF, this]
theorem find_none_all {l : List Ordr} {d : Int} {p : Pt} {k : Nat} (h : (l.take k).find? (hitB d p) = none) (hk : l.length ≤ k) : nextF l d p = none := by
  rw [List.take_of_length_le hk] at h; simp [nextF, h]
theorem next_post_some {l : List Ordr} {d : Int} {p : Pt} {w w' : World} {x y : Int} (h : nextF l d p = some (x, y)) (hk : Keeps w w') :
    NextPost l d p w (.returned (.tuple #[.agg #[.int .i64 x, .int .i64 y], .bool true])) w' := ⟨by rw [h]; rfl, hk⟩
theorem next_post_none {l : List Ordr} {d : Int} {x y : Int} {w w' : World} (h : nextF l d (x, y) = none) (hk : Keeps w w') :
    NextPost l d (x, y) w (.returned (.tuple #[.agg #[.int .i64 x, .int .i64 y], .bool false])) w' := ⟨by rw [h]; rfl, hk⟩

set_option maxHeartbeats 400000 in
theorem next_any (l : List Ordr) (A : Option Addr) (c : Nat) (day px py : Int) (w : World) (hl : Ords w w.heap.size A l) (hn : l.length ≤ 1000000000000) :
    Calls Try.prog 24 #[.slice A l.length c, .int .i64 day, .agg #[.int .i64 px, .int .i64 py]] w (NextPost l day (px, py) w) := by
  go_enter Try.func24, Try.ntmps24
  go_wp2
  obtain ⟨n, hn'⟩ : ∃ n, n = l.length := ⟨_, rfl⟩
  rw [← hn'] at hn ⊢
  have HN := Lib.hid hn'; clear hn'
  have b0 : Blk ((w.alloc (.cells #[Value.int .i64 px, .int .i64 py] 24)).alloc (.cells #[Value.int .i64 0, .int .i64 0] 24)) w.heap.size 24 #[Value.int .i64 px, .int .i64 py] := (Blk.new w _ _).alloc _
  have b1 : Blk ((w.alloc (.cells #[Value.int .i64 px, .int .i64 py] 24)).alloc (.cells #[Value.int .i64 0, .int .i64 0] 24)) (w.heap.size + 1) 24 #[Value.int .i64 0, .int .i64 0] := by
    have := Blk.new (w.alloc (.cells #[Value.int .i64 px, .int .i64 py] 24)) 24 #[Value.int .i64 0, .int .i64 0]; rwa [World.size_alloc] at this
  have k0 : Keeps w ((w.alloc (.cells #[Value.int .i64 px, .int .i64 py] 24)).alloc (.cells #[Value.int .i64 0, .int .i64 0] 24)) := ((Keeps.refl _).alloc _).alloc _
  have z0 : ((w.alloc (.cells #[Value.int .i64 px, .int .i64 py] 24)).alloc (.cells #[Value.int .i64 0, .int .i64 0] 24)).heap.size = w.heap.size + 2 := by simp
  generalize (w.alloc (.cells #[Value.int .i64 px, .int .i64 py] 24)).alloc (.cells #[Value.int .i64 0, .int .i64 0] 24) = W0 at *
  have Z0 := Lib.hid z0; clear z0
  go_loopw [12] (fun i wr => ∃ k : Nat, k ≤ n ∧ i = .int .i64 k ∧ Below (w.heap.size + 2) W0 wr ∧ (l.take k).find? (hitB day (px, py)) = none) (fun i _ => n - (intOf i).toNat)
  case atStart => exact ⟨0, by omega, rfl, Below.refl _ _, by simp⟩
  case round =>
    obtain ⟨k, hk, rfl, hB, hf⟩ := hrel
    have d0 := b0.below hB (by omega)
    have d1 := b1.below hB (by omega)
    have p0 : wr.cell? ⟨w.heap.size, 0, none⟩ = some (.int .i64 px) := cell_of_blk d0 0 rfl
    have p1 : wr.cell? ⟨w.heap.size, 1, none⟩ = some (.int .i64 py) := cell_of_blk d0 1 rfl
    have q0 : wr.cell? ⟨w.heap.size + 1, 0, none⟩ = some (.int .i64 0) := cell_of_blk d1 0 rfl
    have q1 : wr.cell? ⟨w.heap.size + 1, 1, none⟩ = some (.int .i64 0) := cell_of_blk d1 1 rfl
    have f0 := d1.frozen 0
    have f1 := d1.frozen 1
    have zr : w.heap.size + 2 ≤ wr.heap.size := by have := hB.size; have := Z0.out; omega
    have zr1 : w.heap.size < wr.heap.size := by omega
    have zr2 : w.heap.size + 1 < wr.heap.size := by omega
    have hK : Keeps w wr := Keeps.trans k0 (hB.mono (by rw [Z0.out]; omega))
    clear d0 d1 b0 b1
    by_cases hlt : k < n
    · have hkl : k < l.length := by rw [← HN.out]; exact hlt
      have hok : l[k]? = some l[k] := List.getElem?_eq_getElem hkl
      obtain ⟨b, off, rfl, hb, c0, c1, c2, c3, c4, c5⟩ := (hl.below hK) k l[k] hok
      generalize l[k] = o at *
      have HF := Lib.hid hf; clear hf
      have HO := Lib.hid hok; clear hok
      have eqP := run_eq_pt
      by_cases e1 : (o.f.1 == px && o.f.2 == py) = true
      · have g1 : o.f = (px, py) := by simp at e1; exact Prod.ext e1.1 e1.2
        by_cases e2 : o.a ≤ day
        · by_cases e3 : day ≤ o.z
          · have HE := Lib.hid (find_some_take HF.out HO.out (by simp [hitB, g1, e2, e3])); clear g1
            go_wp2
            refine bodyPost_ret (v := .tuple #[.agg #[.int .i64 o.t.1, .int .i64 o.t.2], .bool true]) ?_ rfl ?_
            · simp [results, Try.results24, go_sem, q0, q1, zr2]
            · exact next_post_some HE.out (by repeat (first | exact hK | apply Keeps.alloc | (refine Keeps.setCell ?_ (by simp) _)))
          · have e3' : decide (day ≤ o.z) = false := by simpa using e3
            have HN2 := Lib.hid (find_none_take HF.out HO.out (by simp [hitB]; omega)); clear g1
            go_wp2
            go_roundw
            case rel => exact ⟨k + 1, by omega, by go_num, hB.alloc (by have := hB.size; have := Z0.out; omega) _, HN2.out⟩
            case measure => simp [intOf]; omega
        · have HN2 := Lib.hid (find_none_take HF.out HO.out (by simp [hitB]; omega)); clear g1
          go_wp2
          go_roundw
          case rel => exact ⟨k + 1, by omega, by go_num, hB.alloc (by have := hB.size; have := Z0.out; omega) _, HN2.out⟩
          case measure => simp [intOf]; omega
      · have HN2 := Lib.hid (find_none_take HF.out HO.out (show hitB day (px, py) o = false by
          simp [hitB, Prod.ext_iff] at e1 ⊢; omega))
        have e1' : (o.f.1 == px && o.f.2 == py) = false := by simpa using e1
        clear e1
        go_wp2
        go_roundw
        case rel => exact ⟨k + 1, by omega, by go_num, hB.alloc (by have := hB.size; have := Z0.out; omega) _, HN2.out⟩
        case measure => simp [intOf]; omega
    · go_wp2
      refine bodyPost_ret (v := .tuple #[.agg #[.int .i64 px, .int .i64 py], .bool false]) ?_ rfl ?_
      · simp [results, Try.results24, go_sem, q0, q1]
      · exact next_post_none (find_none_all hf (by have := HN.out; omega)) (by repeat (first | exact hK | apply Keeps.alloc | (refine Keeps.setCell ?_ (by simp) _)))
set_option maxHeartbeats 1000000 in
theorem rnext_any (l : List Ordr) (A : Option Addr) (c : Nat) (day px py : Int) (w : World) (hl : Ords w w.heap.size A l) (hn : l.length ≤ 1000000000000) :
    Calls Try.prog 17 #[.slice A l.length c, .int .i64 day, .agg #[.int .i64 px, .int .i64 py]] w (NextPost l day (px, py) w) := by
  go_enter Try.func17, Try.ntmps17
  go_wp2
  obtain ⟨n, hn'⟩ : ∃ n, n = l.length := ⟨_, rfl⟩
  rw [← hn'] at hn ⊢
  have HN := Lib.hid hn'; clear hn'
  have b0 : Blk ((w.alloc (.cells #[Value.int .i64 px, .int .i64 py] 24)).alloc (.cells #[Value.int .i64 0, .int .i64 0] 24)) w.heap.size 24 #[Value.int .i64 px, .int .i64 py] := (Blk.new w _ _).alloc _
  have b1 : Blk ((w.alloc (.cells #[Value.int .i64 px, .int .i64 py] 24)).alloc (.cells #[Value.int .i64 0, .int .i64 0] 24)) (w.heap.size + 1) 24 #[Value.int .i64 0, .int .i64 0] := by
    have := Blk.new (w.alloc (.cells #[Value.int .i64 px, .int .i64 py] 24)) 24 #[Value.int .i64 0, .int .i64 0]; rwa [World.size_alloc] at this
  have k0 : Keeps w ((w.alloc (.cells #[Value.int .i64 px, .int .i64 py] 24)).alloc (.cells #[Value.int .i64 0, .int .i64 0] 24)) := ((Keeps.refl _).alloc _).alloc _
  have z0 : ((w.alloc (.cells #[Value.int .i64 px, .int .i64 py] 24)).alloc (.cells #[Value.int .i64 0, .int .i64 0] 24)).heap.size = w.heap.size + 2 := by simp
  generalize (w.alloc (.cells #[Value.int .i64 px, .int .i64 py] 24)).alloc (.cells #[Value.int .i64 0, .int .i64 0] 24) = W0 at *
  have Z0 := Lib.hid z0; clear z0
  go_loopw [8] (fun i wr => ∃ k : Nat, k ≤ n ∧ i = .int .i64 k ∧ Below (w.heap.size + 2) W0 wr ∧ (l.take k).find? (hitB day (px, py)) = none) (fun i _ => n - (intOf i).toNat)
  case atStart => exact ⟨0, by omega, rfl, Below.refl _ _, by simp⟩
  case round =>
    obtain ⟨k, hk, rfl, hB, hf⟩ := hrel
    have d0 := b0.below hB (by omega)
    have d1 := b1.below hB (by omega)
    have p0 : wr.cell? ⟨w.heap.size, 0, none⟩ = some (.int .i64 px) := cell_of_blk d0 0 rfl
    have p1 : wr.cell? ⟨w.heap.size, 1, none⟩ = some (.int .i64 py) := cell_of_blk d0 1 rfl
    have q0 : wr.cell? ⟨w.heap.size + 1, 0, none⟩ = some (.int .i64 0) := cell_of_blk d1 0 rfl
    have q1 : wr.cell? ⟨w.heap.size + 1, 1, none⟩ = some (.int .i64 0) := cell_of_blk d1 1 rfl
    have f0 := d1.frozen 0
    have f1 := d1.frozen 1
    have zr : w.heap.size + 2 ≤ wr.heap.size := by have := hB.size; have := Z0.out; omega
    have zr1 : w.heap.size < wr.heap.size := by omega
    have zr2 : w.heap.size + 1 < wr.heap.size := by omega
    have hK : Keeps w wr := Keeps.trans k0 (hB.mono (by rw [Z0.out]; omega))
    clear d0 d1 b0 b1
    by_cases hlt : k < n
    · have hkl : k < l.length := by rw [← HN.out]; exact hlt
      have hok : l[k]? = some l[k] := List.getElem?_eq_getElem hkl
      obtain ⟨b, off, rfl, hb, c0, c1, c2, c3, c4, c5⟩ := (hl.below hK) k l[k] hok
      generalize l[k] = o at *
      have HF := Lib.hid hf; clear hf
      have HO := Lib.hid hok; clear hok
      have eqP := run_eq_pt
      have hki : (k : Int) < n := by omega
      have hki0 : (0 : Int) ≤ k := by omega
      by_cases e1 : (o.f.1 == px && o.f.2 == py) = true
      · have g1 : o.f = (px, py) := by simp at e1; exact Prod.ext e1.1 e1.2
        by_cases e2 : o.a ≤ day
        · have e2' : decide (o.a ≤ day) = true := by simpa using e2
          by_cases e3 : day ≤ o.z
          · have e3' : decide (day ≤ o.z) = true := by simpa using e3
            have HE := Lib.hid (find_some_take HF.out HO.out (by simp [hitB, g1, e2, e3])); clear g1
            go_wp2
            go_quiet (fail)
            go_wp2
            refine bodyPost_ret (v := .tuple #[.agg #[.int .i64 o.t.1, .int .i64 o.t.2], .bool true]) ?_ rfl ?_
            · simp [results, Try.results17, go_sem, q0, q1, zr2]
            · exact next_post_some HE.out (by repeat (first | exact hK | apply Keeps.alloc | apply Keeps.drewN | apply Keeps.drew | (refine Keeps.setCell ?_ (by simp) _)))
          · have e3' : decide (day ≤ o.z) = false := by simpa using e3
            have HN2 := Lib.hid (find_none_take HF.out HO.out (by simp [hitB]; omega)); clear g1
            go_wp2
            go_quiet (fail)
            go_wp2
            go_roundw
            case rel => exact ⟨k + 1, by omega, by go_num, below_drewN hB _, HN2.out⟩
            case measure => simp [intOf]; omega
        · have e2' : decide (o.a ≤ day) = false := by simpa using e2
          have HN2 := Lib.hid (find_none_take HF.out HO.out (by simp [hitB]; omega)); clear g1
          go_wp2
          go_quiet (fail)
          go_wp2
          go_roundw
          case rel => exact ⟨k + 1, by omega, by go_num, below_drewN hB _, HN2.out⟩
          case measure => simp [intOf]; omega
      · have HN2 := Lib.hid (find_none_take HF.out HO.out (show hitB day (px, py) o = false by
          simp [hitB, Prod.ext_iff] at e1 ⊢; omega))
        have e1' : (o.f.1 == px && o.f.2 == py) = false := by simpa using e1
        clear e1
        go_wp2
        go_quiet (fail)
        go_wp2
        go_roundw
        case rel => exact ⟨k + 1, by omega, by go_num, below_drewN hB _, HN2.out⟩
        case measure => simp [intOf]; omega
    · go_wp2
      refine bodyPost_ret (v := .tuple #[.agg #[.int .i64 px, .int .i64 py], .bool false]) ?_ rfl ?_
      · simp [results, Try.results17, go_sem, q0, q1]
      · exact next_post_none (find_none_all hf (by have := HN.out; omega)) (by repeat (first | exact hK | apply Keeps.alloc | (refine Keeps.setCell ?_ (by simp) _)))
def okO (o : Ordr) : Bool := decide (o.a ≤ o.z) && decide (-1000000 ≤ o.a) && decide (o.z ≤ 1000000) && !(o.f.1 == o.t.1 && o.f.2 == o.t.2) && ptB o.f && ptB o.t
def validF (l : List Ordr) : Bool := decide (l.length ≤ 40) && l.all okO
def BoolPost (x : Bool) (w : World) (e : Ending) (w' : World) : Prop := e = .returned (.bool x) ∧ Keeps w w'
theorem bool_post {x y : Bool} {w w' : World} (h : x = y) (hk : Keeps w w') : BoolPost x w (.returned (.bool y)) w' := ⟨by rw [h], hk⟩
theorem valid_long {l : List Ordr} (h : 40 < l.length) : validF l = false := by simp [validF]; omega
theorem valid_bad {l : List Ordr} {k : Nat} {o : Ordr} (ho : l[k]? = some o) (h : okO o = false) : validF l = false := by
  have hm : o ∈ l := List.mem_of_getElem? ho
  have : l.all okO = false := by
    rw [List.all_eq_false]; exact ⟨o, hm, by simp [h]⟩
  simp [validF, this]
def okTo (l : List Ordr) (k : Nat) : Prop := (l.take k).all okO = true
theorem okTo_succ {l : List Ordr} {k : Nat} {o : Ordr} (h : okTo l k) (ho : l[k]? = some o) (hn : okO o = true) : okTo l (k+1) := by
  unfold okTo at *; rw [List.take_add_one, ho]; simp at h ⊢; exact ⟨h, hn⟩
theorem okTo_end {l : List Ordr} {k : Nat} (h : okTo l k) (hk : l.length ≤ k) : validF l = decide (l.length ≤ 40) := by
  unfold okTo at h; rw [List.take_of_length_le hk] at h; simp [validF, h]
theorem ok_all {o : Ordr} (h1 : ¬ o.z < o.a) (h2 : ¬ o.a < -1000000) (h3 : ¬ 1000000 < o.z) (h4 : (o.f.1 == o.t.1 && o.f.2 == o.t.2) = false) (h5 : ptB o.f = true) (h6 : ptB o.t = true) : okO o = true := by
  unfold okO; rw [h4, h5, h6]; simp; omega
theorem keep2 {w X W1 : World} {p : Addr} {v : Value} (hk1 : Keeps X W1) (hp : p.block < w.heap.size) (hX : Keeps w X) (h : X.cell? p = some v) : W1.cell? p = some v :=
  (Below.cell hk1 (Nat.lt_of_lt_of_le hp (Below.size hX))).trans h
theorem point_is (x y : Int) (r : Bool) (h : ptB (x, y) = r) (w : World) : Calls Try.prog 22 #[.agg #[.int .i64 x, .int .i64 y]] w fun e w' => e = .returned (.bool r) ∧ Keeps w w' := h ▸ point_any x y w

set_option maxHeartbeats 4000000 in
theorem valid_any (l : List Ordr) (A : Option Addr) (c : Nat) (w : World) (hl : Ords w w.heap.size A l) (hn : l.length ≤ 1000000000000) :
    Calls Try.prog 15 #[.slice A l.length c] w (BoolPost (validF l) w) := by
  by_cases h40 : 40 < l.length
  · have E := Lib.hid (valid_long h40)
    go_enter Try.func15, Try.ntmps15
    go_wp2
    go_ret
    exact bool_post E.out (Keeps.refl _)
  go_enter Try.func15, Try.ntmps15
  go_wp2
  obtain ⟨n, hn'⟩ : ∃ n, n = l.length := ⟨_, rfl⟩
  rw [← hn'] at hn h40 ⊢
  have HN := Lib.hid hn'; clear hn'
  go_loopw [10] (fun i wr => ∃ k : Nat, k ≤ n ∧ i = .int .i64 k ∧ Keeps w wr ∧ okTo l k) (fun i _ => n - (intOf i).toNat)
  case atStart => exact ⟨0, by omega, rfl, Keeps.refl _, by simp [okTo]⟩
  case round =>
    obtain ⟨k, hk, rfl, hK, hf⟩ := hrel
    by_cases hlt : k < n
    · have hkl : k < l.length := by rw [← HN.out]; exact hlt
      have hok : l[k]? = some l[k] := List.getElem?_eq_getElem hkl
      obtain ⟨b, off, rfl, hb, c0, c1, c2, c3, c4, c5⟩ := (hl.below hK) k l[k] hok
      have hbr : b < wr.heap.size := by have := hK.size; omega
      generalize l[k] = o at *
      have HF := Lib.hid hf; clear hf
      have HO := Lib.hid hok; clear hok
      have eqP := run_eq_pt
      have hki : (k : Int) < n := by omega
      have hki0 : (0 : Int) ≤ k := by omega
      by_cases t1 : o.z < o.a
      · have E := Lib.hid (valid_bad HO.out (by simp [okO]; omega))
        have t1' : decide (o.z < o.a) = true := by simpa using t1
        go_wp2
        go_ret
        exact bool_post E.out (by repeat (first | exact hK | apply Keeps.alloc | apply Keeps.drewN | apply Keeps.drew))
      have t1' : decide (o.z < o.a) = false := by simpa using t1
      by_cases t2 : o.a < -1000000
      · have E := Lib.hid (valid_bad HO.out (by simp [okO]; omega))
        have t2' : decide (o.a < -1000000) = true := by simpa using t2
        go_wp2
        go_ret
        exact bool_post E.out (by repeat (first | exact hK | apply Keeps.alloc | apply Keeps.drewN | apply Keeps.drew))
      have t2' : decide (o.a < -1000000) = false := by simpa using t2
      by_cases t3 : 1000000 < o.z
      · have E := Lib.hid (valid_bad HO.out (by simp [okO]; omega))
        have t3' : decide (1000000 < o.z) = true := by simpa using t3
        go_wp2
        go_ret
        exact bool_post E.out (by repeat (first | exact hK | apply Keeps.alloc | apply Keeps.drewN | apply Keeps.drew))
      have t3' : decide (1000000 < o.z) = false := by simpa using t3
      by_cases t4 : (o.f.1 == o.t.1 && o.f.2 == o.t.2) = true
      · have E := Lib.hid (valid_bad HO.out (by simp [okO, t4]))
        go_wp2
        go_ret
        exact bool_post E.out (by repeat (first | exact hK | apply Keeps.alloc | apply Keeps.drewN | apply Keeps.drew))
      have t4' : (o.f.1 == o.t.1 && o.f.2 == o.t.2) = false := by simpa using t4
      clear t4
      have n0 := Blk.new wr 39 #[Value.int .i64 o.f.1, .int .i64 o.f.2, .int .i64 o.t.1, .int .i64 o.t.2, .int .i64 o.a, .int .i64 o.z]
      cases t5 : ptB o.f
      · have E := Lib.hid (valid_bad HO.out (by simp [okO, t5]))
        have T5 := Lib.hid (show ptB (o.f.1, o.f.2) = false from t5); clear t5
        go_wp2_with fail
        refine (isPoint_any _ _ _).mono ?_
        rintro e W1 ⟨rfl, hk1⟩
        rw [T5.out]
        go_wp2
        go_ret
        exact bool_post E.out (((hK.alloc _).trans hk1))
      have T5 := Lib.hid (show ptB (o.f.1, o.f.2) = true from t5)
      cases t6 : ptB o.t
      · have E := Lib.hid (valid_bad HO.out (by simp [okO, t6]))
        have T6 := Lib.hid (show ptB (o.t.1, o.t.2) = false from t6); clear t6 t5
        go_wp2_with fail
        refine (isPoint_any _ _ _).mono ?_
        rintro e W1 ⟨rfl, hk1⟩
        rw [T5.out]
        have n1 := n0.below hk1 (by simp)
        have x2 : W1.cell? ⟨wr.heap.size, 2, none⟩ = some (.int .i64 o.t.1) := cell_of_blk n1 2 rfl
        have x3 : W1.cell? ⟨wr.heap.size, 3, none⟩ = some (.int .i64 o.t.2) := cell_of_blk n1 3 rfl
        clear n0 n1
        go_wp2_with fail
        refine (isPoint_any _ _ _).mono ?_
        rintro e W2 ⟨rfl, hk2⟩
        rw [T6.out]
        go_wp2
        go_ret
        exact bool_post E.out (((hK.alloc _).trans hk1).trans hk2)
      · have E := Lib.hid (okTo_succ HF.out HO.out (ok_all t1 t2 t3 t4' t5 t6))
        have T6 := Lib.hid (show ptB (o.t.1, o.t.2) = true from t6); clear t6 t5
        go_wp2_with fail
        refine (isPoint_any _ _ _).mono ?_
        rintro e W1 ⟨rfl, hk1⟩
        rw [T5.out]
        have n1 := n0.below hk1 (by simp)
        have x2 : W1.cell? ⟨wr.heap.size, 2, none⟩ = some (.int .i64 o.t.1) := cell_of_blk n1 2 rfl
        have x3 : W1.cell? ⟨wr.heap.size, 3, none⟩ = some (.int .i64 o.t.2) := cell_of_blk n1 3 rfl
        clear n0 n1
        go_wp2_with fail
        refine (isPoint_any _ _ _).mono ?_
        rintro e W2 ⟨rfl, hk2⟩
        rw [T6.out]
        go_wp2
        go_roundw
        case rel => exact ⟨k + 1, by omega, by go_num, ((hK.alloc _).trans hk1).trans hk2, E.out⟩
        case measure => simp [intOf]; omega
    · have E := Lib.hid (okTo_end hf (by have := HN.out; omega))
      have h41 : decide (l.length ≤ 40) = true := by have := HN.out; simp; omega
      go_wp2
      go_ret
      exact bool_post (E.out.trans h41) hK

set_option maxHeartbeats 4000000 in
theorem rvalid_any (l : List Ordr) (A : Option Addr) (c : Nat) (w : World) (hl : Ords w w.heap.size A l) (hn : l.length ≤ 1000000000000) :
    Calls Try.prog 16 #[.slice A l.length c] w (BoolPost (validF l) w) := by
  go_enter Try.func16, Try.ntmps16
  go_wp2
  obtain ⟨n, hn'⟩ : ∃ n, n = l.length := ⟨_, rfl⟩
  rw [← hn'] at hn ⊢
  have HN := Lib.hid hn'; clear hn'
  go_loopw [3] (fun i wr => ∃ k : Nat, k ≤ n ∧ i = .int .i64 k ∧ Keeps w wr ∧ okTo l k) (fun i _ => n - (intOf i).toNat)
  case atStart => exact ⟨0, by omega, rfl, Keeps.refl _, by simp [okTo]⟩
  case round =>
    obtain ⟨k, hk, rfl, hK, hf⟩ := hrel
    by_cases hlt : k < n
    · have hkl : k < l.length := by rw [← HN.out]; exact hlt
      have hok : l[k]? = some l[k] := List.getElem?_eq_getElem hkl
      obtain ⟨b, off, rfl, hb, c0, c1, c2, c3, c4, c5⟩ := (hl.below hK) k l[k] hok
      have hbr : b < wr.heap.size := by have := hK.size; omega
      generalize l[k] = o at *
      have HF := Lib.hid hf; clear hf
      have HO := Lib.hid hok; clear hok
      have eqP := run_eq_pt
      have hki : (k : Int) < n := by omega
      have hki0 : (0 : Int) ≤ k := by omega
      by_cases t1 : o.z < o.a
      · have E := Lib.hid (valid_bad HO.out (by simp [okO]; omega))
        have t1' : decide (o.z < o.a) = true := by simpa using t1
        go_wp2
        go_quiet (fail)
        go_wp2
        go_ret
        exact bool_post E.out (by repeat (first | exact hK | apply Keeps.alloc | apply Keeps.drewN | apply Keeps.drew))
      have t1' : decide (o.z < o.a) = false := by simpa using t1
      by_cases t2 : o.a < -1000000
      · have E := Lib.hid (valid_bad HO.out (by simp [okO]; omega))
        have t2' : decide (o.a < -1000000) = true := by simpa using t2
        go_wp2
        go_quiet (fail)
        go_wp2
        go_ret
        exact bool_post E.out (by repeat (first | exact hK | apply Keeps.alloc | apply Keeps.drewN | apply Keeps.drew))
      have t2' : decide (o.a < -1000000) = false := by simpa using t2
      by_cases t3 : 1000000 < o.z
      · have E := Lib.hid (valid_bad HO.out (by simp [okO]; omega))
        have t3' : decide (1000000 < o.z) = true := by simpa using t3
        go_wp2
        go_quiet (fail)
        go_wp2
        go_ret
        exact bool_post E.out (by repeat (first | exact hK | apply Keeps.alloc | apply Keeps.drewN | apply Keeps.drew))
      have t3' : decide (1000000 < o.z) = false := by simpa using t3
      by_cases t4 : (o.f.1 == o.t.1 && o.f.2 == o.t.2) = true
      · have E := Lib.hid (valid_bad HO.out (by simp [okO, t4]))
        go_wp2
        go_quiet (fail)
        go_wp2
        go_ret
        exact bool_post E.out (by repeat (first | exact hK | apply Keeps.alloc | apply Keeps.drewN | apply Keeps.drew))
      have t4' : (o.f.1 == o.t.1 && o.f.2 == o.t.2) = false := by simpa using t4
      clear t4
      have a0 := After.cell c0 hbr
      have a1 := After.cell c1 hbr
      have a2 := After.cell c2 hbr
      have a3 := After.cell c3 hbr
      have a4 := After.cell c4 hbr
      have a5 := After.cell c5 hbr
      clear c0 c1 c2 c3 c4 c5
      cases t5 : ptB o.f
      · have E := Lib.hid (valid_bad HO.out (by simp [okO, t5]))
        have T5 := Lib.hid (show ptB (o.f.1, o.f.2) = false from t5); clear t5
        go_wp2
        refine wp_region_after (by kernel_rfl) (by kernel_rfl) ?_
        repeat (go_big_quiet_step ((go_at_call 22; with_reducible exact after_call (point_is _ _ _ T5.out _))))
        refine wpQuiet_nil ?_
        intro _ hw'
        obtain ⟨⟨W1, hk1⟩, rfl⟩ := hw'
        go_wp2
        go_ret
        exact bool_post E.out (hK.trans hk1)
      have T5 := Lib.hid (show ptB (o.f.1, o.f.2) = true from t5)
      cases t6 : ptB o.t
      · have E := Lib.hid (valid_bad HO.out (by simp [okO, t6]))
        have T6 := Lib.hid (show ptB (o.t.1, o.t.2) = false from t6); clear t6 t5
        go_wp2
        refine wp_region_after (by kernel_rfl) (by kernel_rfl) ?_
        repeat (go_big_quiet_step ((first | (go_at_call 22; with_reducible exact after_call (point_is _ _ _ T5.out _)) | (go_at_call 22; with_reducible exact after_call (point_is _ _ _ T6.out _)))))
        refine wpQuiet_nil ?_
        intro _ hw'
        obtain ⟨⟨W1, hk1⟩, rfl⟩ := hw'
        go_wp2
        go_ret
        exact bool_post E.out (hK.trans hk1)
      · have E := Lib.hid (okTo_succ HF.out HO.out (ok_all t1 t2 t3 t4' t5 t6))
        have T6 := Lib.hid (show ptB (o.t.1, o.t.2) = true from t6); clear t6 t5
        go_wp2
        refine wp_region_after (by kernel_rfl) (by kernel_rfl) ?_
        repeat (go_big_quiet_step ((first | (go_at_call 22; with_reducible exact after_call (point_is _ _ _ T5.out _)) | (go_at_call 22; with_reducible exact after_call (point_is _ _ _ T6.out _)))))
        refine wpQuiet_nil ?_
        intro _ hw'
        obtain ⟨⟨W1, hk1⟩, rfl⟩ := hw'
        go_wp2
        go_roundw
        case rel => exact ⟨k + 1, by omega, by go_num, hK.trans hk1, E.out⟩
        case measure => simp [intOf]; omega
    · have E := Lib.hid (okTo_end hf (by have := HN.out; omega))
      have h41 := Lib.hid HN.out.symm
      go_wp2
      go_ret
      exact bool_post (E.out.trans (by rw [h41.out]; simp; omega)) hK
/-- The slice with address A holds the points l, in a block below B. -/
def Pts (w : World) (B : Nat) (A : Option Addr) (l : List Pt) : Prop :=
  ∀ (k : Nat) (p : Pt), l[k]? = some p → ∃ b off, A = some ⟨b, off, none⟩ ∧ b < B ∧
    w.cell? ⟨b, off + k * 2, none⟩ = some (.int .i64 p.1) ∧ w.cell? ⟨b, off + k * 2 + 1, none⟩ = some (.int .i64 p.2)
theorem Pts.below {w w' : World} {B : Nat} {A : Option Addr} {l : List Pt} (h : Pts w B A l) (hb : Below B w w') : Pts w' B A l := fun k o hk => by
  obtain ⟨b, off, e, hlt, h0, h1⟩ := h k o hk
  exact ⟨b, off, e, hlt, (hb.cell (p := ⟨b, _, none⟩) hlt).trans h0, (hb.cell (p := ⟨b, _, none⟩) hlt).trans h1⟩
theorem Pts.more {w : World} {B B' : Nat} {A : Option Addr} {l : List Pt} (h : Pts w B A l) (hb : B ≤ B') : Pts w B' A l := fun k o hk => by
  obtain ⟨b, off, e, hlt, h0⟩ := h k o hk
  exact ⟨b, off, e, by omega, h0⟩
def ptCells (l : List Pt) : List Value := l.flatMap fun p => [.int .i64 p.1, .int .i64 p.2]
theorem ptCells_length (l : List Pt) : (ptCells l).length = l.length * 2 := by
  unfold ptCells; induction l with
  | nil => rfl
  | cons a l ih => simp [ih] at *; omega
theorem ptCells_at : ∀ (l : List Pt) (k : Nat) (p : Pt), l[k]? = some p → (ptCells l)[k * 2]? = some (.int .i64 p.1) ∧ (ptCells l)[k * 2 + 1]? = some (.int .i64 p.2)
  | [], k, p, h => by simp at h
  | a :: l, 0, p, h => by simp at h; subst h; simp [ptCells]
  | a :: l, k + 1, p, h => by
    have := ptCells_at l k p (by simpa using h)
    unfold ptCells at *
    simp only [List.flatMap_cons, List.cons_append, List.nil_append]
    rw [show (k + 1) * 2 = k * 2 + 1 + 1 by omega]
    simpa using this
theorem ptCells_append (l m : List Pt) : ptCells (l ++ m) = ptCells l ++ ptCells m := by simp [ptCells]
theorem Pts.of_own {w : World} {base n cap : Nat} {A : Option Addr} {l : List Pt} (h : w.ownsRow base 24 2 (.slice A n cap) n (ptCells l)) (hn : n = l.length) : Pts w w.heap.size A l := fun k p hk => by
  have hr := Reads.of_own h
  have hkl : k < l.length := (List.getElem?_eq_some_iff.1 hk).1
  obtain ⟨ad, e, hb, hc⟩ := hr.2 (by omega)
  obtain ⟨h0, h1⟩ := ptCells_at l k p hk
  have c0 := hc _ _ h0
  have c1 := hc _ _ h1
  obtain ⟨b, off, spot⟩ := ad
  have hs : spot = none := by
    obtain ⟨p0, hp0⟩ : ∃ p0, l[0]? = some p0 := ⟨l[0]'(by omega), List.getElem?_eq_getElem (by omega)⟩
    have := hc _ _ (ptCells_at l 0 p0 hp0).1
    have := World.cell?_spot this
    simpa [Addr.add] using this
  subst hs
  refine ⟨b, off, e, hb, ?_, ?_⟩
  · by_cases hk0 : k = 0
    · subst hk0; simpa [Addr.add] using c0
    · rw [Addr.add, if_neg (by omega)] at c0; exact c0
  · rw [Addr.add, if_neg (by omega)] at c1; simpa [Nat.add_assoc] using c1

def hasTo (l : List Pt) (k : Nat) (p : Pt) : Prop := (l.take k).contains p = false
theorem hasTo_succ {l : List Pt} {k : Nat} {p q : Pt} (h : hasTo l k p) (ho : l[k]? = some q) (hn : (q.1 == p.1 && q.2 == p.2) = false) : hasTo l (k+1) p := by
  unfold hasTo at *; rw [List.take_add_one, ho]
  simp at h hn ⊢
  refine ⟨h, fun e => ?_⟩
  subst e; exact hn rfl rfl
theorem has_hit {l : List Pt} {k : Nat} {p q : Pt} (ho : l[k]? = some q) (hn : (q.1 == p.1 && q.2 == p.2) = true) : l.contains p = true := by
  simp at hn
  have : q = p := Prod.ext hn.1 hn.2
  subst this
  simpa using List.mem_of_getElem? ho
theorem has_end {l : List Pt} {k : Nat} {p : Pt} (h : hasTo l k p) (hk : l.length ≤ k) : l.contains p = false := by
  unfold hasTo at h; rwa [List.take_of_length_le hk] at h

set_option maxHeartbeats 1000000 in
theorem in_any (l : List Pt) (A : Option Addr) (c : Nat) (px py : Int) (w : World) (hl : Pts w w.heap.size A l) (hn : l.length ≤ 1000000000000) :
    Calls Try.prog 20 #[.slice A l.length c, .agg #[.int .i64 px, .int .i64 py]] w (BoolPost (l.contains (px, py)) w) := by
  go_enter Try.func20, Try.ntmps20
  go_wp2
  obtain ⟨n, hn'⟩ : ∃ n, n = l.length := ⟨_, rfl⟩
  rw [← hn'] at hn ⊢
  have HN := Lib.hid hn'; clear hn'
  have b0 := Blk.new w 24 #[Value.int .i64 px, .int .i64 py]
  have k0 : Keeps w (w.alloc (.cells #[Value.int .i64 px, .int .i64 py] 24)) := (Keeps.refl _).alloc _
  have z0 : (w.alloc (.cells #[Value.int .i64 px, .int .i64 py] 24)).heap.size = w.heap.size + 1 := by simp
  generalize (w.alloc (.cells #[Value.int .i64 px, .int .i64 py] 24)) = W0 at *
  have Z0 := Lib.hid z0; clear z0
  go_loopw [5] (fun i wr => ∃ k : Nat, k ≤ n ∧ i = .int .i64 k ∧ Keeps W0 wr ∧ hasTo l k (px, py)) (fun i _ => n - (intOf i).toNat)
  case atStart => exact ⟨0, by omega, rfl, Keeps.refl _, by simp [hasTo]⟩
  case round =>
    obtain ⟨k, hk, rfl, hB, hf⟩ := hrel
    have d0 := b0.below hB (by rw [Z0.out]; omega)
    have p0 : wr.cell? ⟨w.heap.size, 0, none⟩ = some (.int .i64 px) := cell_of_blk d0 0 rfl
    have p1 : wr.cell? ⟨w.heap.size, 1, none⟩ = some (.int .i64 py) := cell_of_blk d0 1 rfl
    have zr1 : w.heap.size < wr.heap.size := by have := hB.size; have := Z0.out; omega
    have hK : Keeps w wr := Keeps.trans k0 hB
    clear d0 b0
    by_cases hlt : k < n
    · have hkl : k < l.length := by rw [← HN.out]; exact hlt
      have hok : l[k]? = some l[k] := List.getElem?_eq_getElem hkl
      obtain ⟨b, off, rfl, hb, c0, c1⟩ := (hl.below hK) k l[k] hok
      generalize l[k] = o at *
      have HF := Lib.hid hf; clear hf
      have HO := Lib.hid hok; clear hok
      have eqP := run_eq_pt
      have hki : (k : Int) < n := by omega
      have hki0 : (0 : Int) ≤ k := by omega
      cases e1 : (o.1 == px && o.2 == py)
      · have E := Lib.hid (hasTo_succ HF.out HO.out e1)
        go_wp2
        go_quiet (fail)
        go_wp2
        go_roundw
        case rel => exact ⟨k + 1, by omega, by go_num, hB.drewN _, E.out⟩
        case measure => simp [intOf]; omega
      · have E := Lib.hid (has_hit (p := (px, py)) HO.out e1)
        go_wp2
        go_quiet (fail)
        go_wp2
        go_ret
        exact bool_post E.out (hK.drewN _)
    · have E := Lib.hid (has_end hf (by have := HN.out; omega))
      go_wp2
      go_ret
      exact bool_post E.out hK
def eqTo (l m : List Pt) (k : Nat) : Prop := l.take k = m.take k
theorem eqTo_succ {l m : List Pt} {k : Nat} {p q : Pt} (h : eqTo l m k) (hp : l[k]? = some p) (hq : m[k]? = some q) (hn : (p.1 == q.1 && p.2 == q.2) = true) : eqTo l m (k+1) := by
  unfold eqTo at *; rw [List.take_add_one, List.take_add_one, hp, hq, h]
  simp at hn
  have : p = q := Prod.ext hn.1 hn.2
  rw [this]
theorem eq_bad {l m : List Pt} {k : Nat} {p q : Pt} (hp : l[k]? = some p) (hq : m[k]? = some q) (hn : (p.1 == q.1 && p.2 == q.2) = false) : decide (l = m) = false := by
  simp; intro h; subst h; rw [hp] at hq; cases hq; simp at hn
theorem eq_end {l m : List Pt} {k : Nat} (h : eqTo l m k) (hk : l.length ≤ k) (hm : l.length = m.length) : decide (l = m) = true := by
  unfold eqTo at h; rw [List.take_of_length_le hk, List.take_of_length_le (by omega)] at h; simp [h]
theorem eq_len {l m : List Pt} (h : l.length ≠ m.length) : decide (l = m) = false := by
  simp; intro e; exact h (by rw [e])
set_option maxHeartbeats 1000000 in
theorem same_any (l m : List Pt) (A A' : Option Addr) (c c' : Nat) (w : World) (hl : Pts w w.heap.size A l) (hm : Pts w w.heap.size A' m) (hn : l.length ≤ 1000000000000) (hn' : m.length ≤ 1000000000000) :
    Calls Try.prog 14 #[.slice A l.length c, .slice A' m.length c'] w (BoolPost (decide (l = m)) w) := by
  by_cases hlen : l.length = m.length
  · go_enter Try.func14, Try.ntmps14
    rw [← hlen]
    have HL := Lib.hid hlen; clear hlen
    obtain ⟨n, hn'⟩ : ∃ n, n = l.length := ⟨_, rfl⟩
    rw [← hn'] at hn ⊢
    have HN := Lib.hid hn'; clear hn'
    go_wp2
    go_loopw [5] (fun i wr => ∃ k : Nat, k ≤ n ∧ i = .int .i64 k ∧ Keeps w wr ∧ eqTo l m k) (fun i _ => n - (intOf i).toNat)
    case atStart => exact ⟨0, by omega, rfl, Keeps.refl _, by simp [eqTo]⟩
    case round =>
      obtain ⟨k, hk, rfl, hK, hf⟩ := hrel
      by_cases hlt : k < n
      · have hkl : k < l.length := by rw [← HN.out]; exact hlt
        have hkm : k < m.length := by rw [← HL.out, ← HN.out]; exact hlt
        have hok : l[k]? = some l[k] := List.getElem?_eq_getElem hkl
        have hom : m[k]? = some m[k] := List.getElem?_eq_getElem hkm
        obtain ⟨b, off, rfl, hb, c0, c1⟩ := (hl.below hK) k l[k] hok
        obtain ⟨b', off', rfl, hb', c0', c1'⟩ := (hm.below hK) k m[k] hom
        generalize l[k] = o at *
        generalize m[k] = o' at *
        have HF := Lib.hid hf; clear hf
        have HO := Lib.hid hok; clear hok
        have HO' := Lib.hid hom; clear hom
        have eqP := run_eq_pt
        have hki : (k : Int) < n := by omega
        have hki0 : (0 : Int) ≤ k := by omega
        cases e1 : (o.1 == o'.1 && o.2 == o'.2)
        · have E := Lib.hid (eq_bad HO.out HO'.out e1)
          go_wp2
          go_quiet (fail)
          go_wp2
          go_ret
          exact bool_post E.out (hK.drewN _)
        · have E := Lib.hid (eqTo_succ HF.out HO.out HO'.out e1)
          go_wp2
          go_quiet (fail)
          go_wp2
          go_roundw
          case rel => exact ⟨k + 1, by omega, by go_num, hK.drewN _, E.out⟩
          case measure => simp [intOf]; omega
      · have E := Lib.hid (eq_end hf (by have := HN.out; omega) HL.out)
        go_wp2
        go_ret
        exact bool_post E.out hK
  · have E := Lib.hid (eq_len hlen)
    have h1 : ((l.length : Int) == (m.length : Int)) = false := by simp; omega
    have h2 : ((l.length : Int) != (m.length : Int)) = true := by simp; omega
    clear hlen
    go_enter Try.func14, Try.ntmps14
    go_wp2
    go_ret
    exact bool_post E.out (Keeps.refl _)
end Go.Proofs.Ytajobinkabdmkaa
