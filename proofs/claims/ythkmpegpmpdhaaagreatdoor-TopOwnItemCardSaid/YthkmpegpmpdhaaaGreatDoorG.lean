/- Part of the proof of x. Conditions: as stated in each theorem. -/
import Derived.Test.YthkmpegpmpdhaaaGreatDoorW
import Derived.Test.YthkmpegpmpdhaaaGreatDoorProg
import Derived.WalkKit
import Derived.WalkSpells
import Derived.WalkLawsBesides
import Derived.Laws.EntriesVeiled
import Derived.ProofKit
import Derived.OpenShut
import Derived.Lib.Hide
import Derived.BigQuiet
import Derived.Deep.QuietTactic
import Derived.Deep.CutRange
import Derived.StillTailTactics
import Derived.Lib.SliceRun
import Derived.RangeFuncRecord
import Derived.Carry
import Derived.ChangeKeysEq
import Derived.Below
import Derived.Laws.OwnMore
import Derived.Deep.AppendLies
import Derived.Deep.Draws
import Derived.Laws.Rows
import Derived.Maps.AppendAt
import Derived.RegionTactic
import Derived.OwnWalk
import Derived.Deep.RegionHeld3
namespace Go.Proofs.YthkmpegpmpdhaaaGreatDoor
open Go.ChangeShapes Go.WideShapes Go.ChangeAt Go.RowKit
set_option linter.unusedSimpArgs false
set_option linter.unusedVariables false
/-- A slice of numbers in a map: where it lies, and what it holds. -/
structure Gr where
  A : Option Addr
  c : Nat
  zs : List Int
def grV (g : Gr) : Value := .slice g.A g.zs.length g.c
/-- Two maps of slices of the call's own, at the blocks r false and r true. -/
structure Grp (w0 W : World) (r : Bool → Nat) (F : Bool → ByteArray → Option Gr) : Prop where
  maps : ∀ t, MapTo sv sEq W (r t) (fun k => (F t k).map grV)
  own : ∀ t k g, F t k = some g → W.ownsRow w0.heap.size 3 1 (grV g) g.zs.length (recCells intR g.zs)
  apart : ∀ t k t' k' g g', F t k = some g → F t' k' = some g' → (t, k) ≠ (t', k') → ∀ x, (grV g).ownBlock = some x → (grV g').ownBlock ≠ some x
  two : r false ≠ r true
  keep : Keeps w0 W
  new : ∀ t, w0.heap.size ≤ r t
def cont (F : Bool → ByteArray → Option Gr) (t : Bool) (k : ByteArray) : List Int := ((F t k).map (·.zs)).getD []
/-- The slice at a key: nil if there is none. -/
def slotG (F : Bool → ByteArray → Option Gr) (t : Bool) (k : ByteArray) : Gr := (F t k).getD ⟨none, 0, []⟩
theorem slot_cont (F : Bool → ByteArray → Option Gr) (t : Bool) (k : ByteArray) : (slotG F t k).zs = cont F t k := by
  unfold slotG cont
  cases F t k <;> rfl
def upd (F : Bool → ByteArray → Option Gr) (t : Bool) (k : ByteArray) (g : Gr) : Bool → ByteArray → Option Gr := fun t' k' => if t' = t ∧ k' = k then some g else F t' k'
theorem cont_upd (F : Bool → ByteArray → Option Gr) (t : Bool) (k : ByteArray) (g : Gr) (t' : Bool) (k' : ByteArray) : cont (upd F t k g) t' k' = if t' = t ∧ k' = k then g.zs else cont F t' k' := by
  unfold cont upd
  split <;> rfl
section
variable {w0 W : World} {r : Bool → Nat} {F : Bool → ByteArray → Option Gr}
theorem Grp.keepK {W' : World} (h : Grp w0 W r F) (hk : Keeps W W') : Grp w0 W' r F := ⟨fun t => (h.maps t).keep hk, fun t k g e => own_keeps (h.own t k g e) hk, h.apart, h.two, h.keep.trans hk, h.new⟩
theorem Grp.look (h : Grp w0 W r F) (t : Bool) (k : ByteArray) : (Instr.lookup 131 (.map (some (r t))) (.string k) false).run Tryz.prog W = .ok (grV (slotG F t k)) W := by
  have := MapTo.look (strKeys Tryz.underlying9) Tryz.underlying131 false (h.maps t) (.slice none 0 0) (by kernel_rfl) k
  rw [this]
  unfold slotG
  cases F t k <;> rfl
theorem Grp.slot (h : Grp w0 W r F) (t : Bool) (k : ByteArray) : W.ownsRow w0.heap.size 3 1 (grV (slotG F t k)) (slotG F t k).zs.length (recCells intR (slotG F t k).zs) := by
  unfold slotG
  cases e : F t k with
  | none => exact World.ownsRow_nil _ _ _ _
  | some g => exact h.own t k g e
theorem Grp.mapsAt (h : Grp w0 W r F) (t : Bool) : MapAt W (r t) := (h.maps t).at_
theorem own_not_map {W : World} {base : Nat} {e : TypeId} {size n x : Nat} {v : Value} {xs : List Value} (h : W.ownsRow base e size v n xs) (hx : v.ownBlock = some x) : ¬ MapAt W x := by
  rintro ⟨es, cl, hm⟩
  rcases h.2 with ⟨rfl, rfl⟩ | ⟨g', cap, cur, rfl, hb, hh, _⟩
  · simp [Value.ownBlock] at hx
  · simp [Value.ownBlock] at hx; subst hx; rw [hh] at hm; cases hm
/-- One number more at a key: behind the append and the store. -/
theorem Grp.push {W2 W3 W4 : World} (h : Grp w0 W2 r F) (t : Bool) (k : ByteArray) (g' : Gr)
    (ho : W3.ownsRow w0.heap.size 3 1 (grV g') g'.zs.length (recCells intR g'.zs)) (hg : W2.grownBy W3 (grV (slotG F t k)).ownBlock) (hl : (grV g').ownBlock = (grV (slotG F t k)).ownBlock ∨ (grV g').ownBlock = some W2.heap.size)
    (hm : MapTo sv sEq W4 (r t) (fun q => if q = k then some (grV g') else (F t q).map grV)) (hg2 : W3.grownBy W4 (some (r t))) : Grp w0 W4 r (upd F t k g') := by
  have hso := h.slot t k
  have hsb : ∀ x, (grV (slotG F t k)).ownBlock = some x → w0.heap.size ≤ x ∧ x < W2.heap.size := fun x hx => own_lt hso hx
  have hrn : ∀ t', some (r t') ≠ (grV (slotG F t k)).ownBlock := fun t' e => own_not_map hso e.symm (h.mapsAt t')
  have m3 : ∀ t', MapTo sv sEq W3 (r t') (fun q => (F t' q).map grV) := fun t' => (h.maps t').grown hg (fun e => hrn t' e.symm)
  have k3 : Keeps w0 W3 := grown_keeps h.keep hg (fun x e => (hsb x e).1)
  have hpass : ∀ (g : Gr), W2.ownsRow w0.heap.size 3 1 (grV g) g.zs.length (recCells intR g.zs) → (∀ x, (grV (slotG F t k)).ownBlock = some x → (grV g).ownBlock ≠ some x) → W3.ownsRow w0.heap.size 3 1 (grV g) g.zs.length (recCells intR g.zs) := fun g hgo hne => by
    refine hgo.kept hg ?_
    cases hb : (grV g).ownBlock with
    | none => exact .inl rfl
    | some x =>
      refine .inr (fun e => hne x e.symm ?_)
      exact hb
  have hpass4 : ∀ (g : Gr), W3.ownsRow w0.heap.size 3 1 (grV g) g.zs.length (recCells intR g.zs) → W4.ownsRow w0.heap.size 3 1 (grV g) g.zs.length (recCells intR g.zs) := fun g hgo => by
    refine hgo.kept hg2 ?_
    cases hb : (grV g).ownBlock with
    | none => exact .inl rfl
    | some x =>
      refine .inr (fun e => own_not_map hgo hb ?_)
      cases e
      exact (m3 t).at_
  have hslot : ∀ t' k' g, F t' k' = some g → ¬ (t' = t ∧ k' = k) → ∀ x, (grV (slotG F t k)).ownBlock = some x → (grV g).ownBlock ≠ some x := by
    intro t' k' g e hne x hx
    cases ef : F t k with
    | none => simp [slotG, ef, grV, Value.ownBlock] at hx
    | some g0 =>
      simp only [slotG, ef, Option.getD_some] at hx
      exact h.apart t k t' k' g0 g ef e (fun e2 => by cases e2; exact hne ⟨rfl, rfl⟩) x hx
  have hnew : ∀ t' k' g, F t' k' = some g → ¬ (t' = t ∧ k' = k) → ∀ x, (grV g').ownBlock = some x → (grV g).ownBlock ≠ some x := by
    intro t' k' g e hne x hx hx'
    rcases hl with hl | hl
    · exact hslot t' k' g e hne x (hl ▸ hx) hx'
    · rw [hl] at hx
      cases hx
      have := (own_lt (h.own t' k' g e) hx').2
      omega
  refine ⟨fun t' => ?_, fun t' k' g e => ?_, fun t1 k1 t2 k2 g1 g2 e1 e2 hne x hx => ?_, h.two, grown_keeps k3 hg2 (fun x e => by cases e; exact h.new t), h.new⟩
  · by_cases et : t' = t
    · subst et
      refine hm.congr (fun q => ?_)
      unfold upd
      by_cases eq : q = k <;> simp [eq]
    · have hrr : r t' ≠ r t := by
        intro e
        cases t <;> cases t' <;> first | exact et rfl | exact h.two e | exact h.two e.symm
      refine ((m3 t').grown hg2 (fun e => hrr (Option.some.inj e).symm)).congr (fun q => ?_)
      unfold upd
      simp [et]
  · unfold upd at e
    split at e
    · cases e; exact hpass4 _ ho
    · rename_i hc
      exact hpass4 _ (hpass g (h.own t' k' g e) (hslot t' k' g e hc))
  · unfold upd at e1 e2
    split at e1
    · rename_i hc1
      cases e1
      split at e2
      · rename_i hc2
        exact absurd (by rw [hc1.1, hc1.2, hc2.1, hc2.2]) hne
      · rename_i hc2
        exact hnew t2 k2 g2 e2 hc2 x hx
    · rename_i hc1
      split at e2
      · cases e2
        intro hx2
        exact hnew t1 k1 g1 e1 hc1 x hx2 hx
      · exact h.apart t1 k1 t2 k2 g1 g2 e1 e2 hne x hx
end
theorem Grp.made {w0 W : World} (h : Keeps w0 W) : Grp w0 ((W.alloc (.map #[] 0)).alloc (.map #[] 0)) (fun t => if t then W.heap.size + 1 else W.heap.size) (fun _ _ => none) where
  maps t := by
    cases t
    · exact MapTo.keep (MapTo.made W) ((Keeps.refl _).alloc _)
    · have := MapTo.made (kv := sv) (eq := sEq) (W.alloc (.map #[] 0))
      simpa using this
  own t k g e := by cases e
  apart t k t' k' g g' e := by cases e
  two := by simp
  keep := (h.alloc _).alloc _
  new t := by cases t <;> simp <;> have := h.size <;> omega

theorem step_appI {w : World} {ops : Array Oper} {o : Oper} {a : Act} {K : Act → World → Prop} {Q : Exit → Act → World → Prop} {E : Prop} (hgd : o.guard = none) (s x : Operand)
    (ho : o.op = .call { callee := .builtin .append, args := #[s, x], argTypes := #[41, 41] }) (base : Nat)
    (v : Value) (zs : List Int) (hs : a.eval s = v) (hown : w.ownsRow base 3 1 v zs.length (recCells intR zs))
    (A : Option Addr) (m c : Nat) (l2 : List Int) (hx : a.eval x = .slice A m c) (hr : RecIn intR w w.heap.size A l2) (hm : Hid (m = l2.length)) (hle : Hid (zs.length + l2.length ≤ 1000000)) (hbase : Hid (base ≤ w.heap.size))
    (h : ∀ A' n' c' w', w'.ownsRow base 3 1 (.slice A' n' c') (zs ++ l2).length (recCells intR (zs ++ l2)) → n' = (zs ++ l2).length → w.grownBy w' v.ownBlock → ((Value.slice A' n' c').ownBlock = v.ownBlock ∨ (Value.slice A' n' c').ownBlock = some w.heap.size) → K (a.put o.dst (.slice A' n' c')) w') :
    if Region.wanted o (yielded ops a.tmps) = true then Oper.wp Tryz.prog o a w K Q else E := by
  obtain ⟨i0, z, hi0, hz0, hz1, hz2, hz3⟩ := intOk.info
  have hle' := hle.out
  have hm' := hm.out
  have hb' := hbase.out
  subst hm'
  refine step_append_any (P := Tryz.prog) w hgd s x 41 ho base 3 i0 z 1 8 Tryz.underlying41 hi0 hz0 hz1 hz2 hz3 (by decide) v zs.length (recCells intR zs) hs hown w.heap.size A l2.length c (recCells intR l2) hx (hr.reads intOk) (recCells_oneCell intOk l2) (by unfold maxLen; omega) (by omega) hb' ?_
  intro v' w' h1 h2 h3
  obtain ⟨A', c', rfl⟩ := own_slice h1
  rw [← List.length_append, ← recCells_append] at h1
  (try rw [← List.length_append] at h3); rw [← List.length_append]
  exact h A' _ c' w' h1 rfl h2 h3

theorem blk_not_map {W : World} {b : Nat} {ty : TypeId} {cs : Array Value} (h : Blk W b ty cs) : ¬ MapAt W b := by
  rintro ⟨es, cl, hm⟩
  unfold Blk at h
  rw [h] at hm; cases hm
theorem Grp.pushed {w0 W2 W3 : World} {r : Bool → Nat} {F : Bool → ByteArray → Option Gr} (h : Grp w0 W2 r F) (t : Bool) (k : ByteArray) {A' : Option Addr} {n' c' : Nat} {zs : List Int}
    (ho : W3.ownsRow w0.heap.size 3 1 (.slice A' n' c') zs.length (recCells intR zs)) (hn : n' = zs.length) (hg : W2.grownBy W3 (grV (slotG F t k)).ownBlock)
    (hl : (Value.slice A' n' c').ownBlock = (grV (slotG F t k)).ownBlock ∨ (Value.slice A' n' c').ownBlock = some W2.heap.size) :
    ∃ W4, (Instr.mapUpdate 131 (.map (some (r t))) (.string k) (.slice A' n' c')).run Tryz.prog W3 = .ok () W4 ∧ Grp w0 W4 r (upd F t k ⟨A', c', zs⟩) ∧ (∀ b ty cs, ty ≠ 3 → Blk W2 b ty cs → Blk W3 b ty cs ∧ Blk W4 b ty cs) ∧ Keeps w0 W3 := by
  subst hn
  have hso := h.slot t k
  have hrn : ∀ t', some (r t') ≠ (grV (slotG F t k)).ownBlock := fun t' e => own_not_map hso e.symm (h.mapsAt t')
  have m3 : MapTo sv sEq W3 (r t) (fun q => (F t q).map grV) := (h.maps t).grown hg (fun e => hrn t e.symm)
  obtain ⟨W4, hp, hm4, hg4⟩ := MapTo.put (strKeys Tryz.underlying9) ba_beq Tryz.underlying131 m3 k (.slice A' zs.length c')
  refine ⟨W4, hp, h.push t k ⟨A', c', zs⟩ ho hg hl hm4 hg4, fun b ty cs hne hb => ?_, grown_keeps h.keep hg (fun x e => (own_lt hso e).1)⟩
  have hb3 : Blk W3 b ty cs := hb.grown hg (fun e => own_blk_ne hso hb (fun e2 => hne e2.symm) e.symm)
  exact ⟨hb3, hb3.grown hg4 (fun e => blk_not_map hb3 (by cases e; exact m3.at_))⟩
end Go.Proofs.YthkmpegpmpdhaaaGreatDoor
