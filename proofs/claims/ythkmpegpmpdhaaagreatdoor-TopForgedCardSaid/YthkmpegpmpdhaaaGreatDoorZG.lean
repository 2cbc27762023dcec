/- Part of the proof of x. Conditions: as stated in each theorem. -/
import Derived.Test.YthkmpegpmpdhaaaGreatDoorZW
import Derived.Test.YthkmpegpmpdhaaaGreatDoorProg
import Derived.WalkKit
import Derived.WalkSpells
import Derived.WalkLawsBesides
import Derived.Laws.EntriesVeiled
import Derived.ProofKit
import Derived.OpenShut
import Derived.Lib.Hide
import Derived.BigQuiet
import Derived.Deep.QuietTactic
import Derived.Deep.CutRange
import Derived.StillTailTactics
import Derived.Lib.SliceRun
import Derived.RangeFuncRecord
import Derived.Carry
import Derived.ChangeKeysEq
import Derived.Below
import Derived.Laws.OwnMore
import Derived.Deep.AppendLies
import Derived.Deep.Draws
import Derived.Laws.Rows
import Derived.Maps.AppendAt
import Derived.RegionTactic
import Derived.OwnWalk
import Derived.Deep.RegionHeld3
namespace Go.Proofs.YthkmpegpmpdhaaaGreatDoor
section
open Go.ChangeShapes Go.WideShapes Go.ChangeAt Go.RowKit
set_option linter.unusedSimpArgs false
set_option linter.unusedVariables false
/-- A slice of numbers in a map: where it lies, and what it holds. -/
structure Gr where
  A : Option Addr
  c : Nat
  zs : List Int
def grV (g : Gr) : Value := .slice g.A g.zs.length g.c
/-- Two maps of slices of the call's own, at the blocks r false and r true. -/
structure Grp (w0 W : World) (r : Bool → Nat) (F : Bool → ByteArray → Option Gr) : Prop where
  maps : ∀ t, MapTo sv sEq W (r t) (fun k => (F t k).map grV)
  own : ∀ t k g, F t k = some g → W.ownsRow w0.heap.size 3 1 (grV g) g.zs.length (recCells intR g.zs)
  apart : ∀ t k t' k' g g', F t k = some g → F t' k' = some g' → (t, k) ≠ (t', k') → ∀ x, (grV g).ownBlock = some x → (grV g').ownBlock ≠ some x
  two : r false ≠ r true
  keep : Keeps w0 W
  new : ∀ t, w0.heap.size ≤ r t
def cont (F : Bool → ByteArray → Option Gr) (t : Bool) (k : ByteArray) : List Int := ((F t k).map (·.zs)).getD []
/-- The slice at a key: nil if there is none. -/
def slotG (F : Bool → ByteArray → Option Gr) (t : Bool) (k : ByteArray) : Gr := (F t k).getD ⟨none, 0, []⟩
theorem slot_cont (F : Bool → ByteArray → Option Gr) (t : Bool) (k : ByteArray) : (slotG F t k).zs = cont F t k := by
  unfold slotG cont
  cases F t k <;> rfl
def upd (F : Bool → ByteArray → Option Gr) (t : Bool) (k : ByteArray) (g : Gr) : Bool → ByteArray → Option Gr := fun t' k' => if t' = t ∧ k' = k then some g else F t' k'
theorem cont_upd (F : Bool → ByteArray → Option Gr) (t : Bool) (k : ByteArray) (g : Gr) (t' : Bool) (k' : ByteArray) : cont (upd F t k g) t' k' = if t' = t ∧ k' = k then g.zs else cont F t' k' := by
  unfold cont upd
  split <;> rfl
section
variable {w0 W : World} {r : Bool → Nat} {F : Bool → ByteArray → Option Gr}
theorem Grp.keepK {W' : World} (h : Grp w0 W r F) (hk : Keeps W W') : Grp w0 W' r F := ⟨fun t => (h.maps t).keep hk, fun t k g e => own_keeps (h.own t k g e) hk, h.apart, h.two, h.keep.trans hk, h.new⟩
theorem Grp.look (h : Grp w0 W r F) (t : Bool) (k : ByteArray) : (Instr.lookup 131 (.map (some (r t))) (.string k) false).run Tryz.prog W = .ok (grV (slotG F t k)) W := by
  have := MapTo.look (strKeys Tryz.underlying9) Tryz.underlying131 false (h.maps t) (.slice none 0 0) (by kernel_rfl) k
  rw [this]
  unfold slotG
  cases F t k <;> rfl
theorem Grp.slot (h : Grp w0 W r F) (t : Bool) (k : ByteArray) : W.ownsRow w0.heap.size 3 1 (grV (slotG F t k)) (slotG F t k).zs.length (recCells intR (slotG F t k).zs) := by
  unfold slotG
  cases e : F t k with
  | none => exact World.ownsRow_nil _ _ _ _
  | some g => exact h.own t k g e
theorem Grp.mapsAt (h : Grp w0 W r F) (t : Bool) : MapAt W (r t) := (h.maps t).at_
theorem own_not_map {W : World} {base : Nat} {e : TypeId} {size n x : Nat} {v : Value} {xs : List Value} (h : W.ownsRow base e size v n xs) (hx : v.ownBlock = some x) : ¬ MapAt W x := by
  rintro ⟨es, cl, hm⟩
  rcases h.2 with ⟨rfl, rfl⟩ | ⟨g', cap, cur, rfl, hb, hh, _⟩
  · simp [Value.ownBlock] at hx
  · simp [Value.ownBlock] at hx; subst hx; rw [hh] at hm; cases hm
/-- One number more at a key: behind the append and the store. -/
theorem Grp.push {W2 W3 W4 : World} (h : Grp w0 W2 r F) (t : Bool) (k : ByteArray) (g' : Gr)
    (ho : W3.ownsRow w0.heap.size 3 1 (grV g') g'.zs.length (recCells intR g'.zs)) (hg : W2.grownBy W3 (grV (slotG F t k)).ownBlock) (hl : (grV g').ownBlock = (grV (slotG F t k)).ownBlock ∨ (grV g').ownBlock = some W2.heap.size)
    (hm : MapTo sv sEq W4 (r t) (fun q => if q = k then some (grV g') else (F t q).map grV)) (hg2 : W3.grownBy W4 (some (r t))) : Grp w0 W4 r (upd F t k g') := by
  have hso := h.slot t k
  have hsb : ∀ x, (grV (slotG F t k)).ownBlock = some x → w0.heap.size ≤ x ∧ x < W2.heap.size := fun x hx => own_lt hso hx
  have hrn : ∀ t', some (r t') ≠ (grV (slotG F t k)).ownBlock := fun t' e => own_not_map hso e.symm (h.mapsAt t')
  have m3 : ∀ t', MapTo sv sEq W3 (r t') (fun q => (F t' q).map grV) := fun t' => (h.maps t').grown hg (fun e => hrn t' e.symm)
  have k3 : Keeps w0 W3 := grown_keeps h.keep hg (fun x e => (hsb x e).1)
  have hpass : ∀ (g : Gr), W2.ownsRow w0.heap.size 3 1 (grV g) g.zs.length (recCells intR g.zs) → (∀ x, (grV (slotG F t k)).ownBlock = some x → (grV g).ownBlock ≠ some x) → W3.ownsRow w0.heap.size 3 1 (grV g) g.zs.length (recCells intR g.zs) := fun g hgo hne => by
    refine hgo.kept hg ?_
    cases hb : (grV g).ownBlock with
    | none => exact .inl rfl
    | some x =>
      refine .inr (fun e => hne x e.symm ?_)
      exact hb
  have hpass4 : ∀ (g : Gr), W3.ownsRow w0.heap.size 3 1 (grV g) g.zs.length (recCells intR g.zs) → W4.ownsRow w0.heap.size 3 1 (grV g) g.zs.length (recCells intR g.zs) := fun g hgo => by
    refine hgo.kept hg2 ?_
    cases hb : (grV g).ownBlock with
    | none => exact .inl rfl
    | some x =>
      refine .inr (fun e => own_not_map hgo hb ?_)
      cases e
      exact (m3 t).at_
  have hslot : ∀ t' k' g, F t' k' = some g → ¬ (t' = t ∧ k' = k) → ∀ x, (grV (slotG F t k)).ownBlock = some x → (grV g).ownBlock ≠ some x := by
    intro t' k' g e hne x hx
    cases ef : F t k with
    | none => simp [slotG, ef, grV, Value.ownBlock] at hx
    | some g0 =>
      simp only [slotG, ef, Option.getD_some] at hx
      exact h.apart t k t' k' g0 g ef e (fun e2 => by cases e2; exact hne ⟨rfl, rfl⟩) x hx
  have hnew : ∀ t' k' g, F t' k' = some g → ¬ (t' = t ∧ k' = k) → ∀ x, (grV g').ownBlock = some x → (grV g).ownBlock ≠ some x := by
    intro t' k' g e hne x hx hx'
    rcases hl with hl | hl
    · exact hslot t' k' g e hne x (hl ▸ hx) hx'
    · rw [hl] at hx
      cases hx
      have := (own_lt (h.own t' k' g e) hx').2
      omega
  refine ⟨fun t' => ?_, fun t' k' g e => ?_, fun t1 k1 t2 k2 g1 g2 e1 e2 hne x hx => ?_, h.two, grown_keeps k3 hg2 (fun x e => by cases e; exact h.new t), h.new⟩
  · by_cases et : t' = t
    · subst et
      refine hm.congr (fun q => ?_)
      unfold upd
      by_cases eq : q = k <;> simp [eq]
    · have hrr : r t' ≠ r t := by
        intro e
        cases t <;> cases t' <;> first | exact et rfl | exact h.two e | exact h.two e.symm
      refine ((m3 t').grown hg2 (fun e => hrr (Option.some.inj e).symm)).congr (fun q => ?_)
      unfold upd
      simp [et]
  · unfold upd at e
    split at e
    · cases e; exact hpass4 _ ho
    · rename_i hc
      exact hpass4 _ (hpass g (h.own t' k' g e) (hslot t' k' g e hc))
  · unfold upd at e1 e2
    split at e1
    · rename_i hc1
      cases e1
      split at e2
      · rename_i hc2
        exact absurd (by rw [hc1.1, hc1.2, hc2.1, hc2.2]) hne
      · rename_i hc2
        exact hnew t2 k2 g2 e2 hc2 x hx
    · rename_i hc1
      split at e2
      · cases e2
        intro hx2
        exact hnew t1 k1 g1 e1 hc1 x hx2 hx
      · exact h.apart t1 k1 t2 k2 g1 g2 e1 e2 hne x hx
end
theorem Grp.made {w0 W : World} (h : Keeps w0 W) : Grp w0 ((W.alloc (.map #[] 0)).alloc (.map #[] 0)) (fun t => if t then W.heap.size + 1 else W.heap.size) (fun _ _ => none) where
  maps t := by
    cases t
    · exact MapTo.keep (MapTo.made W) ((Keeps.refl _).alloc _)
    · have := MapTo.made (kv := sv) (eq := sEq) (W.alloc (.map #[] 0))
      simpa using this
  own t k g e := by cases e
  apart t k t' k' g g' e := by cases e
  two := by simp
  keep := (h.alloc _).alloc _
  new t := by cases t <;> simp <;> have := h.size <;> omega

theorem step_appI {w : World} {ops : Array Oper} {o : Oper} {a : Act} {K : Act → World → Prop} {Q : Exit → Act → World → Prop} {E : Prop} (hgd : o.guard = none) (s x : Operand)
    (ho : o.op = .call { callee := .builtin .append, args := #[s, x], argTypes := #[41, 41] }) (base : Nat)
    (v : Value) (zs : List Int) (hs : a.eval s = v) (hown : w.ownsRow base 3 1 v zs.length (recCells intR zs))
    (A : Option Addr) (m c : Nat) (l2 : List Int) (hx : a.eval x = .slice A m c) (hr : RecIn intR w w.heap.size A l2) (hm : Hid (m = l2.length)) (hle : Hid (zs.length + l2.length ≤ 1000000)) (hbase : Hid (base ≤ w.heap.size))
    (h : ∀ A' n' c' w', w'.ownsRow base 3 1 (.slice A' n' c') (zs ++ l2).length (recCells intR (zs ++ l2)) → n' = (zs ++ l2).length → w.grownBy w' v.ownBlock → ((Value.slice A' n' c').ownBlock = v.ownBlock ∨ (Value.slice A' n' c').ownBlock = some w.heap.size) → K (a.put o.dst (.slice A' n' c')) w') :
    if Region.wanted o (yielded ops a.tmps) = true then Oper.wp Tryz.prog o a w K Q else E := by
  obtain ⟨i0, z, hi0, hz0, hz1, hz2, hz3⟩ := intOk.info
  have hle' := hle.out
  have hm' := hm.out
  have hb' := hbase.out
  subst hm'
  refine step_append_any (P := Tryz.prog) w hgd s x 41 ho base 3 i0 z 1 8 Tryz.underlying41 hi0 hz0 hz1 hz2 hz3 (by decide) v zs.length (recCells intR zs) hs hown w.heap.size A l2.length c (recCells intR l2) hx (hr.reads intOk) (recCells_oneCell intOk l2) (by unfold maxLen; omega) (by omega) hb' ?_
  intro v' w' h1 h2 h3
  obtain ⟨A', c', rfl⟩ := own_slice h1
  rw [← List.length_append, ← recCells_append] at h1
  (try rw [← List.length_append] at h3); rw [← List.length_append]
  exact h A' _ c' w' h1 rfl h2 h3

theorem blk_not_map {W : World} {b : Nat} {ty : TypeId} {cs : Array Value} (h : Blk W b ty cs) : ¬ MapAt W b := by
  rintro ⟨es, cl, hm⟩
  unfold Blk at h
  rw [h] at hm; cases hm
theorem Grp.pushed {w0 W2 W3 : World} {r : Bool → Nat} {F : Bool → ByteArray → Option Gr} (h : Grp w0 W2 r F) (t : Bool) (k : ByteArray) {A' : Option Addr} {n' c' : Nat} {zs : List Int}
    (ho : W3.ownsRow w0.heap.size 3 1 (.slice A' n' c') zs.length (recCells intR zs)) (hn : n' = zs.length) (hg : W2.grownBy W3 (grV (slotG F t k)).ownBlock)
    (hl : (Value.slice A' n' c').ownBlock = (grV (slotG F t k)).ownBlock ∨ (Value.slice A' n' c').ownBlock = some W2.heap.size) :
    ∃ W4, (Instr.mapUpdate 131 (.map (some (r t))) (.string k) (.slice A' n' c')).run Tryz.prog W3 = .ok () W4 ∧ Grp w0 W4 r (upd F t k ⟨A', c', zs⟩) ∧ (∀ b ty cs, ty ≠ 3 → Blk W2 b ty cs → Blk W3 b ty cs ∧ Blk W4 b ty cs) ∧ Keeps w0 W3 := by
  subst hn
  have hso := h.slot t k
  have hrn : ∀ t', some (r t') ≠ (grV (slotG F t k)).ownBlock := fun t' e => own_not_map hso e.symm (h.mapsAt t')
  have m3 : MapTo sv sEq W3 (r t) (fun q => (F t q).map grV) := (h.maps t).grown hg (fun e => hrn t e.symm)
  obtain ⟨W4, hp, hm4, hg4⟩ := MapTo.put (strKeys Tryz.underlying9) ba_beq Tryz.underlying131 m3 k (.slice A' zs.length c')
  refine ⟨W4, hp, h.push t k ⟨A', c', zs⟩ ho hg hl hm4 hg4, fun b ty cs hne hb => ?_, grown_keeps h.keep hg (fun x e => (own_lt hso e).1)⟩
  have hb3 : Blk W3 b ty cs := hb.grown hg (fun e => own_blk_ne hso hb (fun e2 => hne e2.symm) e.symm)
  exact ⟨hb3, hb3.grown hg4 (fun e => blk_not_map hb3 (by cases e; exact m3.at_))⟩
end
section
open Go.ChangeShapes Go.WideShapes Go.ChangeAt Go.RowKit
set_option linter.unusedSimpArgs false
set_option linter.unusedVariables false
/-- The records from number i on that are well-formed and have a label; those whose contents have it. -/
def labsF (l : List Scn) : List Rec → Nat → ByteArray → List Int
  | [], _, _ => []
  | x :: t, i, k => (if validF l x && x.lab == k then [(i : Int)] else []) ++ labsF l t (i + 1) k
def inF (i : Nat) (k : ByteArray) (cs : List ByteArray) : List Int := (cs.filter (fun s => s == k)).map fun _ => (i : Int)
def holdsF (l : List Scn) : List Rec → Nat → ByteArray → List Int
  | [], _, _ => []
  | x :: t, i, k => (if validF l x then inF i k x.con else []) ++ holdsF l t (i + 1) k
theorem labsF_append (l : List Scn) (k : ByteArray) : ∀ (a b : List Rec) (i : Nat), labsF l (a ++ b) i k = labsF l a i k ++ labsF l b (i + a.length) k
  | [], b, i => rfl
  | x :: a, b, i => by
    rw [List.cons_append, labsF, labsF, labsF_append l k a b (i + 1), List.append_assoc]
    congr 3
    simp; omega
theorem holdsF_append (l : List Scn) (k : ByteArray) : ∀ (a b : List Rec) (i : Nat), holdsF l (a ++ b) i k = holdsF l a i k ++ holdsF l b (i + a.length) k
  | [], b, i => rfl
  | x :: a, b, i => by
    rw [List.cons_append, holdsF, holdsF, holdsF_append l k a b (i + 1), List.append_assoc]
    congr 3
    simp; omega
def bothF (l : List Scn) (rs : List Rec) (t : Bool) (k : ByteArray) : List Int := if t then holdsF l rs 0 k else labsF l rs 0 k
theorem bothF_bad {l : List Scn} {rs : List Rec} {i : Nat} {x : Rec} (hx : rs[i]? = some x) (hv : validF l x = false) (t : Bool) (k : ByteArray) : bothF l (rs.take (i + 1)) t k = bothF l (rs.take i) t k := by
  have hi := (List.getElem?_eq_some_iff.1 hx).1
  unfold bothF
  rw [take_snoc' hx, labsF_append, holdsF_append]
  simp [labsF, holdsF, hv]
theorem bothF_good {l : List Scn} {rs : List Rec} {i : Nat} {x : Rec} (hx : rs[i]? = some x) (hv : validF l x = true) (t : Bool) (k : ByteArray) :
    bothF l (rs.take (i + 1)) t k = bothF l (rs.take i) t k ++ (if t then inF i k x.con else if x.lab == k then [(i : Int)] else []) := by
  have hi := (List.getElem?_eq_some_iff.1 hx).1
  unfold bothF
  rw [take_snoc' hx, labsF_append, holdsF_append]
  have e : (rs.take i).length = i := by simp; omega
  cases t <;> simp [labsF, holdsF, hv, e]
theorem inF_snoc {i : Nat} {k : ByteArray} {cs : List ByteArray} {j : Nat} {s : ByteArray} (hs : cs[j]? = some s) : inF i k (cs.take (j + 1)) = inF i k (cs.take j) ++ (if s == k then [(i : Int)] else []) := by
  unfold inF
  rw [take_snoc' hs, List.filter_append, List.map_append]
  congr 1
  by_cases h : (s == k) = true
  · simp [h]
  · simp [h]
theorem labsF_len (l : List Scn) (k : ByteArray) : ∀ (a : List Rec) (i : Nat), (labsF l a i k).length ≤ a.length
  | [], i => by simp [labsF]
  | x :: a, i => by
    have := labsF_len l k a (i + 1)
    simp only [labsF, List.length_append, List.length_cons]
    split <;> simp <;> omega
theorem inF_len (i : Nat) (k : ByteArray) (cs : List ByteArray) : (inF i k cs).length ≤ cs.length := by
  unfold inF
  rw [List.length_map]
  exact List.length_filter_le _ _
theorem holdsF_len (l : List Scn) (k : ByteArray) : ∀ (a : List Rec) (i : Nat), (∀ x ∈ a, x.con.length ≤ 100) → (holdsF l a i k).length ≤ a.length * 100
  | [], i, _ => by simp [holdsF]
  | x :: a, i, h => by
    have := holdsF_len l k a (i + 1) (fun y hy => h y (by simp [hy]))
    have h1 := inF_len i k x.con
    have h2 := h x (by simp)
    simp only [holdsF, List.length_append, List.length_cons]
    split <;> simp <;> omega
theorem bothF_len {l : List Scn} {rs : List Rec} (h : ∀ x ∈ rs, x.con.length ≤ 100) (hm : rs.length ≤ 100) (i : Nat) (t : Bool) (k : ByteArray) : (bothF l (rs.take i) t k).length ≤ 10000 := by
  have ht : (rs.take i).length ≤ 100 := by simp; omega
  unfold bothF
  cases t
  · have := labsF_len l k (rs.take i) 0; simp only [Bool.false_eq_true, if_false]; omega
  · have := holdsF_len l k (rs.take i) 0 (fun x hx => h x (List.mem_of_mem_take hx)); simp only [if_true]; omega
abbrev rrF (h : Nat) : Bool → Nat := fun t => if t then h + 1 else h
def srcC (lA : Option Addr) (n lc : Nat) (rA : Option Addr) (m rc h : Nat) : Array Value := #[.slice lA n lc, .slice rA m rc, .map (some h), .map (some (h + 1))]
def ReadR (l : List Scn) (rs : List Rec) (lA : Option Addr) (n lc : Nat) (rA : Option Addr) (m rc : Nat) (w : World) (v : Value) (wr : World) : Prop :=
  ∃ (i : Nat) (F : Bool → ByteArray → Option Gr), i ≤ rs.length ∧ v = .int .i64 (i : Int) ∧ Grp w wr (rrF w.heap.size) F ∧ Blk wr (w.heap.size + 1 + 1) 133 (srcC lA n lc rA m rc w.heap.size) ∧ ∀ t k, cont F t k = bothF l (rs.take i) t k
/-- What the records say, read once: the source at the block sb, all of it below N. -/
structure SrcIs (l : List Scn) (rs : List Rec) (lA : Option Addr) (n lc : Nat) (rA : Option Addr) (m rc h : Nat) (F : Bool → ByteArray → Option Gr) (N : Nat) (W : World) (sb : Nat) : Prop where
  c0 : W.cell? ⟨sb, 0, none⟩ = some (.slice lA n lc)
  c1 : W.cell? ⟨sb, 1, none⟩ = some (.slice rA m rc)
  c2 : W.cell? ⟨sb, 2, none⟩ = some (.map (some h))
  c3 : W.cell? ⟨sb, 3, none⟩ = some (.map (some (h + 1)))
  lt : sb < N
  hn : n = l.length
  hm : m = rs.length
  sc : RecIn scR W N lA l
  rc : RecIn rcR W N rA rs
  maps : ∀ t, MapTo sv sEq W (rrF h t) (fun k => (F t k).map grV)
  mlt : ∀ t, rrF h t < N
  sl : ∀ t k g, F t k = some g → RecIn intR W N g.A g.zs
  con : ∀ t k, cont F t k = bothF l rs t k
section
variable {l : List Scn} {rs : List Rec} {lA rA : Option Addr} {n lc m rc h N N' sb : Nat} {F : Bool → ByteArray → Option Gr} {W W' : World}
theorem SrcIs.below (H : SrcIs l rs lA n lc rA m rc h F N W sb) (hb : Below N W W') : SrcIs l rs lA n lc rA m rc h F N W' sb where
  c0 := (hb.cell (p := ⟨sb, 0, none⟩) H.lt).trans H.c0
  c1 := (hb.cell (p := ⟨sb, 1, none⟩) H.lt).trans H.c1
  c2 := (hb.cell (p := ⟨sb, 2, none⟩) H.lt).trans H.c2
  c3 := (hb.cell (p := ⟨sb, 3, none⟩) H.lt).trans H.c3
  lt := H.lt
  hn := H.hn
  hm := H.hm
  sc := H.sc.below hb
  rc := H.rc.below hb
  maps t := (H.maps t).below hb (H.mlt t)
  mlt := H.mlt
  sl t k g e := (H.sl t k g e).below hb
  con := H.con
theorem SrcIs.look (H : SrcIs l rs lA n lc rA m rc h F N W sb) (t : Bool) (k : ByteArray) : (Instr.lookup 131 (.map (some (rrF h t))) (.string k) false).run Tryz.prog W = .ok (grV (slotG F t k)) W := by
  have := MapTo.look (strKeys Tryz.underlying9) Tryz.underlying131 false (H.maps t) (.slice none 0 0) (by kernel_rfl) k
  rw [this]
  unfold slotG
  cases F t k <;> rfl
theorem SrcIs.slot (H : SrcIs l rs lA n lc rA m rc h F N W sb) (t : Bool) (k : ByteArray) : RecIn intR W N (slotG F t k).A (bothF l rs t k) := by
  rw [← H.con, ← slot_cont]
  unfold slotG
  cases e : F t k with
  | none => exact RecIn.nil _
  | some g => exact H.sl t k g e
end
def SrcPost (l : List Scn) (rs : List Rec) (lA : Option Addr) (n lc : Nat) (rA : Option Addr) (m rc : Nat) (w : World) (e : Ending) (w' : World) : Prop :=
  ∃ sb h F, e = .returned (.pointer (some ⟨sb, 0, none⟩)) ∧ Keeps w w' ∧ SrcIs l rs lA n lc rA m rc h F w'.heap.size w' sb
def ConR (l : List Scn) (rs : List Rec) (i : Nat) (con : List ByteArray) (lab : ByteArray) (lA : Option Addr) (n lc : Nat) (rA : Option Addr) (m rc : Nat) (w : World) (v : Value) (wr : World) : Prop :=
  ∃ (j : Nat) (F : Bool → ByteArray → Option Gr), j ≤ con.length ∧ v = .int .i64 (j : Int) ∧ Grp w wr (rrF w.heap.size) F ∧ Blk wr (w.heap.size + 1 + 1) 133 (srcC lA n lc rA m rc w.heap.size) ∧
    ∀ t k, cont F t k = bothF l (rs.take i) t k ++ (if t then inF i k (con.take j) else if lab == k then [(i : Int)] else [])
set_option maxRecDepth 100000 in
set_option maxHeartbeats 8000000 in
theorem read24 (l : List Scn) (rs : List Rec) (lA rA : Option Addr) (n lc m rc : Nat) (w : World) (hl : RecIn scR w w.heap.size lA l) (hn : Hid (n = l.length)) (hr : RecIn rcR w w.heap.size rA rs) (hm : Hid (m = rs.length)) (hok : ∀ x ∈ rs, RecOk w w.heap.size x)
    (hnm : n ≤ 1000) (hmm : m ≤ 100) (hcl : ∀ x ∈ rs, x.con.length ≤ 100) :
    Calls Tryz.prog 24 #[.slice lA n lc, .slice rA m rc] w (SrcPost l rs lA n lc rA m rc w) := by
  have HL := Lib.hid hl
  have HR := Lib.hid hr
  have HOK := Lib.hid hok
  have HCL := Lib.hid hcl
  have G0 := Lib.hid ((Grp.made (Keeps.refl w)).keepK ((Keeps.refl _).alloc (.cells (srcC lA n lc rA m rc w.heap.size) 133)))
  have B0 := Lib.hid (show Blk (((w.alloc (.map #[] 0)).alloc (.map #[] 0)).alloc (.cells (srcC lA n lc rA m rc w.heap.size) 133)) (w.heap.size + 1 + 1) 133 (srcC lA n lc rA m rc w.heap.size) by have h := Blk.new ((w.alloc (.map #[] 0)).alloc (.map #[] 0)) 133 (srcC lA n lc rA m rc w.heap.size); rwa [World.size_alloc, World.size_alloc] at h)
  have hmk := @run_makeMap Tryz.prog
  clear hl hr hok hcl
  go_enter Tryz.func24, Tryz.ntmps24
  go_wp2_with fail
  go_loopw [18] (fun v wr => ReadR l rs lA n lc rA m rc w v wr) (fun v _ => m - (intOf v).toNat)
  case atStart => exact ⟨0, _, by omega, rfl, G0.out, B0.out, fun t k => by cases t <;> rfl⟩
  case round =>
    clear G0 B0
    obtain ⟨i, F, hi, rfl, hG, hB, hC⟩ := hrel
    have hml := hm.out
    by_cases him : i < m
    · obtain ⟨x, hx⟩ : ∃ x, rs[i]? = some x := ⟨_, List.getElem?_eq_getElem (by omega)⟩
      have hmem := List.mem_of_getElem? hx
      have kw := hG.keep
      obtain ⟨bk, o, rfl, hbl, e0, e1, e2, e3, e4, e5⟩ := (HR.out.keep kw).rc hx
      have ROK := Lib.hid ((HOK.out x hmem).keep kw)
      have HCX := Lib.hid (HCL.out x hmem)
      have HX := Lib.hid hx
      obtain ⟨sc, nu, ki, ti, lab, con, A, c⟩ := x
      obtain ⟨q, hq⟩ : ∃ q, q = con.length := ⟨_, rfl⟩
      have HQ := Lib.hid hq
      change World.cell? _ _ = some (.int .i64 sc) at e0
      change World.cell? _ _ = some (.int .i64 nu) at e1
      change World.cell? _ _ = some (.int .i64 ki) at e2
      change World.cell? _ _ = some (.int .i64 ti) at e3
      change World.cell? _ _ = some (.string lab) at e4
      change World.cell? _ _ = some (.slice A con.length c) at e5
      rw [← hq] at e5
      have kb := (Keeps.refl wr).alloc (.cells #[.int .i64 sc, .int .i64 nu, .int .i64 ki, .int .i64 ti, .string lab, .slice A q c] 26)
      have HV := Lib.hid (valid59 l ⟨sc, nu, ki, ti, lab, con, A, c⟩ lA n lc _ ((HL.out.keep kw).keep kb) hn (by omega) (ROK.out.keep kb))
      replace HV := Lib.hid (show Calls Tryz.prog 59 #[.slice lA n lc, .agg #[.int .i64 sc, .int .i64 nu, .int .i64 ki, .int .i64 ti, .string lab, .slice A q c]] _ _ by have := HV.out; unfold recA at this; simp only at this; rw [← HQ.out] at this; exact this)
      obtain ⟨vb, hvb⟩ : ∃ b, validF l ⟨sc, nu, ki, ti, lab, con, A, c⟩ = b := ⟨_, rfl⟩
      rw [hvb] at HV
      have HVB := Lib.hid hvb
      have HG := Lib.hid (hG.keepK kb)
      have HB := Lib.hid (hB.alloc (.cells #[.int .i64 sc, .int .i64 nu, .int .i64 ki, .int .i64 ti, .string lab, .slice A q c] 26))
      have HN := Lib.hid (Blk.new wr 26 #[.int .i64 sc, .int .i64 nu, .int .i64 ki, .int .i64 ti, .string lab, .slice A q c])
      have HC := Lib.hid hC
      have iil : i < rs.length := by omega
      have ii : (i : Int) < (m : Int) := by omega
      have i0 : (0 : Int) ≤ (i : Int) := by omega
      have iw : IntKind.i64.wrap ((i : Int) + 1) = (i : Int) + 1 := wrap_in (by omega) (by omega)
      clear hx hmem kw hq kb hvb hG hB hC hml
      cases vb
      · go_wp2_with (go_at_call 59; (with_reducible refine HV.out.mono ?_); rintro e w2 ⟨rfl, hk⟩; have HG2 := Lib.hid (HG.out.keepK hk); have HB2 := Lib.hid (HB.out.below hk HB.out.lt); clear hk HG HB)
        go_roundw
        case rel => exact ⟨i + 1, F, by omega, by go_num, HG2.out, HB2.out, fun t k => by rw [HC.out, bothF_bad HX.out HVB.out]⟩
        case measure => simp [intOf]; omega
      · go_wp2_with (go_at_call 59; (with_reducible refine HV.out.mono ?_); rintro e w2 ⟨rfl, hk⟩; have HG2 := Lib.hid (HG.out.keepK hk); have HB2 := Lib.hid (HB.out.below hk HB.out.lt); have HN2 := Lib.hid (HN.out.below hk HN.out.lt); clear hk HG HB HN)
        have c62 := cell_of_blk HB2.out 2 (v := .map (some w.heap.size)) rfl
        have cl4 := cell_of_blk HN2.out 4 (v := .string lab) rfl
        have HW2 := Lib.hid HG2.out.keep
        have SOF := Lib.hid (show ∀ X, Keeps w2 X → (fun w' => w'.cell? ⟨w.heap.size + 1 + 1, 2, none⟩ = some (.map (some w.heap.size)) ∧ w'.cell? ⟨wr.heap.size, 4, none⟩ = some (.string lab) ∧ Keeps w w') X from fun X hX => ⟨cell_keep c62 hX, cell_keep cl4 hX, HW2.out.trans hX⟩)
        have lk1 : (Instr.lookup 131 (.map (some w.heap.size)) (.string lab) false).run Tryz.prog w2 = .ok (grV (slotG F false lab)) w2 := HG2.out.look false lab
        have lk2 : (Instr.lookup 131 (.map (some w.heap.size)) (.string lab) false).run Tryz.prog w2.drew = .ok (grV (slotG F false lab)) w2.drew := (HG2.out.keepK (Keeps.refl w2).drew).look false lab
        have lk3 : (Instr.lookup 131 (.map (some w.heap.size)) (.string lab) false).run Tryz.prog (w2.alloc (.cells #[.int .i64 (i : Int)] 3)) = .ok (grV (slotG F false lab)) (w2.alloc (.cells #[.int .i64 (i : Int)] 3)) := (HG2.out.keepK ((Keeps.refl w2).alloc (.cells #[.int .i64 (i : Int)] 3))).look false lab
        have lk4 : (Instr.lookup 131 (.map (some w.heap.size)) (.string lab) false).run Tryz.prog (w2.alloc (.cells #[.int .i64 (i : Int)] 3)).drew = .ok (grV (slotG F false lab)) (w2.alloc (.cells #[.int .i64 (i : Int)] 3)).drew := (HG2.out.keepK (((Keeps.refl w2).alloc (.cells #[.int .i64 (i : Int)] 3))).drew).look false lab
        have hs3 := (HG2.out.keepK (((Keeps.refl w2).alloc (.cells #[.int .i64 (i : Int)] 3))).drew).slot false lab
        have hzl : (slotG F false lab).zs.length ≤ 10000 := by rw [slot_cont, HC.out]; exact bothF_len HCL.out (by rw [← hm.out]; omega) i false lab
        obtain ⟨g0, hg0⟩ : ∃ g, slotG F false lab = g := ⟨_, rfl⟩
        have HG0 := Lib.hid hg0
        rw [hg0] at lk1 lk2 lk3 lk4 hs3 hzl
        obtain ⟨gA, gc, gz⟩ := g0
        simp only [grV] at lk1 lk2 lk3 lk4 hs3 hzl
        obtain ⟨gn, hgn⟩ : ∃ k, gz.length = k := ⟨_, rfl⟩
        have HGN := Lib.hid hgn
        have hs3' : (w2.alloc (.cells #[.int .i64 (i : Int)] 3)).drew.ownsRow w.heap.size 3 1 (.slice gA gn gc) gz.length (recCells intR gz) := by rw [← hgn]; exact hs3
        have S3 := Lib.hid hs3'
        rw [hgn] at lk1 lk2 lk3 lk4
        have X3 := Lib.hid ((RecIn.lit intOk w2 [(i : Int)] #[.int .i64 (i : Int)] rfl).keep (Keeps.refl _).drew)
        have ONE := Lib.hid (show (1 : Nat) = [(i : Int)].length from rfl)
        have LE := Lib.hid (show gz.length + [(i : Int)].length ≤ 1000000 by simp; omega)
        have BS := Lib.hid (show w.heap.size ≤ (w2.alloc (.cells #[.int .i64 (i : Int)] 3)).drew.heap.size from (HG2.out.keepK (((Keeps.refl w2).alloc (.cells #[.int .i64 (i : Int)] 3))).drew).keep.size)
        have PUSH := Lib.hid (show ∀ A' n' c' W3, W3.ownsRow w.heap.size 3 1 (.slice A' n' c') (gz ++ [(i : Int)]).length (recCells intR (gz ++ [(i : Int)])) → n' = (gz ++ [(i : Int)]).length → (w2.alloc (.cells #[.int .i64 (i : Int)] 3)).drew.grownBy W3 (Value.slice gA gn gc).ownBlock → ((Value.slice A' n' c').ownBlock = (Value.slice gA gn gc).ownBlock ∨ (Value.slice A' n' c').ownBlock = some (w2.alloc (.cells #[.int .i64 (i : Int)] 3)).drew.heap.size) →
          ∃ W4, (Instr.mapUpdate 131 (.map (some w.heap.size)) (.string lab) (.slice A' n' c')).run Tryz.prog W3 = .ok () W4 ∧ Grp w W4 (rrF w.heap.size) (upd F false lab ⟨A', c', gz ++ [(i : Int)]⟩) ∧ Blk W4 (w.heap.size + 1 + 1) 133 (srcC lA n lc (some ⟨bk, o, none⟩) m rc w.heap.size) ∧ Blk W4 wr.heap.size 26 #[.int .i64 sc, .int .i64 nu, .int .i64 ki, .int .i64 ti, .string lab, .slice A q c] ∧ W3.cell? ⟨w.heap.size + 1 + 1, 2, none⟩ = some (.map (some w.heap.size)) ∧ W3.cell? ⟨wr.heap.size, 4, none⟩ = some (.string lab) ∧ Keeps w W3 from fun A' n' c' W3 h1 h2 h3 h4 => by
            obtain ⟨W4, p1, p2, p3, p4⟩ := (HG2.out.keepK (((Keeps.refl w2).alloc (.cells #[.int .i64 (i : Int)] 3))).drew).pushed false lab h1 h2 (by rw [HG0.out]; simp only [grV]; rw [hgn]; exact h3) (by rw [HG0.out]; simp only [grV]; rw [hgn]; exact h4)
            have q1 := p3 _ _ _ (by decide) ((HB2.out.alloc (.cells #[.int .i64 (i : Int)] 3)).drew)
            have q2 := p3 _ _ _ (by decide) ((HN2.out.alloc (.cells #[.int .i64 (i : Int)] 3)).drew)
            exact ⟨W4, p1, p2, q1.2, q2.2, cell_of_blk q1.1 2 rfl, cell_of_blk q2.1 4 rfl, p4⟩)
        clear hg0 hgn hs3 hs3' hzl
        go_wp2_with fail
        go_region_held3 (fun w' => w'.cell? ⟨w.heap.size + 1 + 1, 2, none⟩ = some (.map (some w.heap.size)) ∧ w'.cell? ⟨wr.heap.size, 4, none⟩ = some (.string lab) ∧ Keeps w w') ((first | exact ⟨hs1, hs2, hs3⟩ | exact ⟨ht1, ht2, ht3⟩ | (refine SOF.out _ ?_; (repeat (first | exact Keeps.refl _ | assumption | apply Keeps.drew | apply Keeps.alloc)); done))) ((refine step_appI (by rfl) (.tmp 39) (.tmp 41) (by rfl) w.heap.size _ gz (by rfl) S3.out _ _ _ [(i : Int)] (by rfl) X3.out ONE LE BS ?_; intro A5 n5 c5 w5 ho5 hn5 hg5 hb5; obtain ⟨w6, hp6, hG6, hB6, hN6, hs1, hs2, hs3⟩ := PUSH.out _ _ _ _ ho5 hn5 hg5 hb5; have ht1 := cell_of_blk hB6 2 (v := .map (some w.heap.size)) rfl; have ht2 := cell_of_blk hN6 4 (v := .string lab) rfl; have ht3 := hG6.keep; have HG6 := Lib.hid hG6; have HB6 := Lib.hid hB6; have HN6 := Lib.hid hN6; clear hG6 hB6 hN6 ho5 hn5 hg5 hb5))
        all_goals (
          have x5 := cell_of_blk HN6.out 5 (v := .slice A q c) rfl
          have CT := Lib.hid (show ∀ t k, cont (upd F false lab ⟨A5, c5, gz ++ [(i : Int)]⟩) t k = bothF l (rs.take i) t k ++ (if t then inF i k (con.take 0) else if lab == k then [(i : Int)] else []) from fun t k => by
            have hgz : gz = bothF l (rs.take i) false lab := by rw [← HC.out, ← slot_cont, HG0.out]
            rw [cont_upd]
            by_cases hc : t = false ∧ k = lab
            · rw [if_pos hc, hc.1, hc.2, ← hgz]
              simp
            · rw [if_neg hc, HC.out]
              cases t
              · have : (lab == k) = false := ba_ne (fun e => hc ⟨rfl, e.symm⟩)
                simp [this]
              · simp [inF])
          clear hp6 hs1 hs2 hs3 ht1 ht2 ht3 lk1 lk2 lk3 lk4 S3 X3 LE BS PUSH SOF c62 cl4 e0 e1 e2 e3 e4 e5
          go_wp2_with fail
          go_loopw [46] (fun v w7 => ConR l rs i con lab lA n lc (some ⟨bk, o, none⟩) m rc w v w7) (fun v _ => q - (intOf v).toNat)
          case atStart => exact ⟨0, _, by omega, rfl, HG6.out, HB6.out, CT.out⟩
          case round =>
            clear HG6 HB6 HN6 CT
            obtain ⟨j, F7, hj, rfl, hG7, hB7, hC7⟩ := hrel
            have hql := HQ.out
            have hq100 : q ≤ 100 := by have := HCX.out; omega
            by_cases hjq : j < q
            · obtain ⟨s, hs⟩ : ∃ s, con[j]? = some s := ⟨_, List.getElem?_eq_getElem (by omega)⟩
              have HSJ := Lib.hid hs
              have kw7 := hG7.keep
              have hcon : RecIn strR w w.heap.size A con := (HOK.out _ (List.mem_of_getElem? HX.out)).con
              obtain ⟨bk2, o2, rfl, hbl2, y0⟩ := (hcon.keep kw7).str hs
              have jl : j < con.length := by omega
              have jj : (j : Int) < (q : Int) := by omega
              have j0 : (0 : Int) ≤ (j : Int) := by omega
              have jw : IntKind.i64.wrap ((j : Int) + 1) = (j : Int) + 1 := wrap_in (by omega) (by omega)
              have HG7 := Lib.hid hG7; have HB7 := Lib.hid hB7; have HC7 := Lib.hid hC7
              have c63 := cell_of_blk hB7 3 (v := .map (some (w.heap.size + 1))) rfl
              have HW7 := Lib.hid kw7
              have SOF := Lib.hid (show ∀ X, Keeps wr X → (fun w' => w'.cell? ⟨w.heap.size + 1 + 1, 3, none⟩ = some (.map (some (w.heap.size + 1))) ∧ Keeps w w') X from fun X hX => ⟨cell_keep c63 hX, HW7.out.trans hX⟩)
              have lk1 : (Instr.lookup 131 (.map (some (w.heap.size + 1))) (.string s) false).run Tryz.prog wr = .ok (grV (slotG F7 true s)) wr := hG7.look true s
              have lk2 : (Instr.lookup 131 (.map (some (w.heap.size + 1))) (.string s) false).run Tryz.prog wr.drew = .ok (grV (slotG F7 true s)) wr.drew := (hG7.keepK (Keeps.refl wr).drew).look true s
              have lk3 : (Instr.lookup 131 (.map (some (w.heap.size + 1))) (.string s) false).run Tryz.prog (wr.alloc (.cells #[.int .i64 (i : Int)] 3)) = .ok (grV (slotG F7 true s)) (wr.alloc (.cells #[.int .i64 (i : Int)] 3)) := (hG7.keepK ((Keeps.refl wr).alloc (.cells #[.int .i64 (i : Int)] 3))).look true s
              have lk4 : (Instr.lookup 131 (.map (some (w.heap.size + 1))) (.string s) false).run Tryz.prog (wr.alloc (.cells #[.int .i64 (i : Int)] 3)).drew = .ok (grV (slotG F7 true s)) (wr.alloc (.cells #[.int .i64 (i : Int)] 3)).drew := (hG7.keepK (((Keeps.refl wr).alloc (.cells #[.int .i64 (i : Int)] 3))).drew).look true s
              have hs3 := (hG7.keepK (((Keeps.refl wr).alloc (.cells #[.int .i64 (i : Int)] 3))).drew).slot true s
              have hzl : (slotG F7 true s).zs.length ≤ 10100 := by
                rw [slot_cont, HC7.out, List.length_append]
                have h1 := bothF_len (l := l) (rs := rs) HCL.out (by rw [← hm.out]; omega) i true s
                have h2 := inF_len i s (con.take j)
                have h3 := HCX.out
                simp only [if_true]
                have h4 : (con.take j).length ≤ con.length := List.length_take_le' _ _
                omega
              obtain ⟨g0, hg0⟩ : ∃ g, slotG F7 true s = g := ⟨_, rfl⟩
              have HG7s := Lib.hid hg0
              rw [hg0] at lk1 lk2 lk3 lk4 hs3 hzl
              obtain ⟨hA, hc, hz⟩ := g0
              simp only [grV] at lk1 lk2 lk3 lk4 hs3 hzl
              obtain ⟨gm, hgm⟩ : ∃ k, hz.length = k := ⟨_, rfl⟩
              have hs3' : (wr.alloc (.cells #[.int .i64 (i : Int)] 3)).drew.ownsRow w.heap.size 3 1 (.slice hA gm hc) hz.length (recCells intR hz) := by rw [← hgm]; exact hs3
              have S3 := Lib.hid hs3'
              rw [hgm] at lk1 lk2 lk3 lk4
              have X3 := Lib.hid ((RecIn.lit intOk wr [(i : Int)] #[.int .i64 (i : Int)] rfl).keep (Keeps.refl _).drew)
              have LE := Lib.hid (show hz.length + [(i : Int)].length ≤ 1000000 by simp; omega)
              have BS := Lib.hid (show w.heap.size ≤ (wr.alloc (.cells #[.int .i64 (i : Int)] 3)).drew.heap.size from (hG7.keepK (((Keeps.refl wr).alloc (.cells #[.int .i64 (i : Int)] 3))).drew).keep.size)
              have PUSH := Lib.hid (show ∀ A' n' c' W3, W3.ownsRow w.heap.size 3 1 (.slice A' n' c') (hz ++ [(i : Int)]).length (recCells intR (hz ++ [(i : Int)])) → n' = (hz ++ [(i : Int)]).length → (wr.alloc (.cells #[.int .i64 (i : Int)] 3)).drew.grownBy W3 (Value.slice hA gm hc).ownBlock → ((Value.slice A' n' c').ownBlock = (Value.slice hA gm hc).ownBlock ∨ (Value.slice A' n' c').ownBlock = some (wr.alloc (.cells #[.int .i64 (i : Int)] 3)).drew.heap.size) →
                  ∃ W4, (Instr.mapUpdate 131 (.map (some (w.heap.size + 1))) (.string s) (.slice A' n' c')).run Tryz.prog W3 = .ok () W4 ∧ Grp w W4 (rrF w.heap.size) (upd F7 true s ⟨A', c', hz ++ [(i : Int)]⟩) ∧ Blk W4 (w.heap.size + 1 + 1) 133 (srcC lA n lc (some ⟨bk, o, none⟩) m rc w.heap.size) ∧ W3.cell? ⟨w.heap.size + 1 + 1, 3, none⟩ = some (.map (some (w.heap.size + 1))) ∧ Keeps w W3 from fun A' n' c' W3 h1 h2 h3 h4 => by
                    obtain ⟨W4, p1, p2, p3, p4⟩ := (hG7.keepK (((Keeps.refl wr).alloc (.cells #[.int .i64 (i : Int)] 3))).drew).pushed true s h1 h2 (by rw [HG7s.out]; simp only [grV]; rw [hgm]; exact h3) (by rw [HG7s.out]; simp only [grV]; rw [hgm]; exact h4)
                    have q1 := p3 _ _ _ (by decide) ((HB7.out.alloc (.cells #[.int .i64 (i : Int)] 3)).drew)
                    exact ⟨W4, p1, p2, q1.2, cell_of_blk q1.1 3 rfl, p4⟩)
              clear hg0 hgm hs3 hs3' hzl hs kw7 hcon hG7 hB7 hC7 hql
              go_wp2_with fail
              go_region_held3 (fun w' => w'.cell? ⟨w.heap.size + 1 + 1, 3, none⟩ = some (.map (some (w.heap.size + 1))) ∧ Keeps w w') ((first | exact ⟨hs1, hs3⟩ | exact ⟨ht1, ht3⟩ | (refine SOF.out _ ?_; (repeat (first | exact Keeps.refl _ | assumption | apply Keeps.drew | apply Keeps.alloc)); done))) ((refine step_appI (by rfl) (.tmp 60) (.tmp 62) (by rfl) w.heap.size _ hz (by rfl) S3.out _ _ _ [(i : Int)] (by rfl) X3.out ONE LE BS ?_; intro A8 n8 c8 w8 ho8 hn8 hg8 hb8; obtain ⟨w9, hp9, hG9, hB9, hs1, hs3⟩ := PUSH.out _ _ _ _ ho8 hn8 hg8 hb8; have ht1 := cell_of_blk hB9 3 (v := .map (some (w.heap.size + 1))) rfl; have ht3 := hG9.keep; have HG9 := Lib.hid hG9; have HB9 := Lib.hid hB9; clear hG9 hB9 ho8 hn8 hg8 hb8))
              all_goals (
                clear hp9 hs1 hs3 ht1 ht3 lk1 lk2 lk3 lk4 S3 X3 LE BS PUSH SOF c63 y0
                go_wp2_with fail
                go_roundw
                case rel => exact ⟨j + 1, _, by omega, by go_num, HG9.out, HB9.out, fun t k => by
                  have hz' : hz = cont F7 true s := by rw [← slot_cont, HG7s.out]
                  rw [cont_upd]
                  by_cases hc : t = true ∧ k = s
                  · rw [if_pos hc, hc.1, hc.2, hz', HC7.out]
                    simp only [if_true]
                    rw [inF_snoc HSJ.out]
                    simp
                  · rw [if_neg hc, HC7.out]
                    cases t
                    · rfl
                    · simp only [if_true]
                      rw [inF_snoc HSJ.out, ba_ne (fun e => hc ⟨rfl, e.symm⟩)]
                      simp⟩
                case measure => simp [intOf]; omega)
            · have HG9 := Lib.hid hG7; have HB9 := Lib.hid hB7
              have HC9 := Lib.hid (show ∀ t k, cont F7 t k = bothF l (rs.take (i + 1)) t k from fun t k => by
                rw [hC7, bothF_good HX.out HVB.out]
                have e : con.take j = con := List.take_of_length_le (by omega)
                rw [e])
              clear hG7 hB7 hC7 hql x5
              go_wp2_with fail
              go_roundw
              case rel => exact ⟨i + 1, F7, by omega, by go_num, HG9.out, HB9.out, HC9.out⟩
              case measure => simp [intOf]; omega)
    · have e : rs.take i = rs := List.take_of_length_le (by omega)
      rw [e] at hC
      have HG := Lib.hid hG; have HB := Lib.hid hB; have HC := Lib.hid hC
      clear hG hB hC e hml
      go_wp2_with fail
      go_ret
      exact ⟨_, w.heap.size, F, rfl, HG.out.keep, {
        c0 := cell_of_blk HB.out 0 rfl
        c1 := cell_of_blk HB.out 1 rfl
        c2 := cell_of_blk HB.out 2 rfl
        c3 := cell_of_blk HB.out 3 rfl
        lt := HB.out.lt
        hn := hn.out
        hm := hm.out
        sc := HL.out.keep HG.out.keep
        rc := HR.out.keep HG.out.keep
        maps := HG.out.maps
        mlt := fun t => (HG.out.maps t).lt
        sl := fun t k g e => RecIn.of_own intOk (HG.out.own t k g e) rfl
        con := HC.out }⟩
end
end Go.Proofs.YthkmpegpmpdhaaaGreatDoor
