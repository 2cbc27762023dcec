/- Part of the proofs of TopMoney and TopOrders. Conditions: as stated in each theorem. -/
import Derived.Test.YthkmpegpmpdhaaaBo
import Derived.Deep.CutRange
import Derived.StillTailTactics
import Derived.Lib.SliceRun
import Derived.RangeFuncRecord
import Derived.Carry
import Derived.ChangeKeysEq
import Derived.Shelf.SlSortCmp.Insertion1
import Derived.Shelf.Lay
import Derived.Ground.SlsfProg
import Derived.Sort.LotA
import Derived.Test.YthkmpegpmpdhaaaRows
import Derived.WalkKit
import Derived.WalkSpells
import Derived.WalkLawsBesides
import Derived.Laws.EntriesVeiled
import Derived.ProofKit
import Derived.OpenShut
import Derived.Lib.Hide
import Derived.BigQuiet
import Derived.Deep.QuietTactic
import Derived.Below
import Derived.Laws.OwnMore
import Derived.Deep.AppendLies
import Derived.Deep.Draws
import Derived.Laws.Rows
import Derived.Maps.AppendAt
import Derived.RegionTactic
import Derived.OwnWalk
import Derived.Deep.RegionHeld3
namespace Go.Proofs.Ythkmpegpmpdhaaa
open Go.Shelf Go.Sort Go.ChangeShapes Go.WideShapes Go.ChangeAt Go.RowKit
set_option linter.unusedSimpArgs false
set_option linter.unusedVariables false
theorem pot_walk {E : Nat → Nat → Int → Prop} (u : Nat → Int) (h : ∀ i j c, E i j c → u j - u i ≤ c) {i j : Nat} {c : Int} (hw : Df.Wk E i j c) : u j - u i ≤ c := by
  induction hw with
  | nil => omega
  | snoc _ e ih => have := h _ _ _ e; omega
theorem pot_noNeg {E : Nat → Nat → Int → Prop} (u : Nat → Int) (h : ∀ i j c, E i j c → u j - u i ≤ c) : Df.NoNeg E := fun i c hw => by
  have := pot_walk u h hw; omega
/-- Values that satisfy bounds. -/
def Sat (u : List Int) (l : List Df.Bd) : Prop := ∀ b ∈ l, Df.at' u b.t - Df.at' u b.f ≤ b.m
theorem Sat.edge {u : List Int} {l : List Df.Bd} (h : Sat u l) : ∀ i j c, Df.Edge l i j c → Df.at' u (j : Int) - Df.at' u (i : Int) ≤ c := by
  rintro i j c ⟨b, hb, h1, h2, rfl⟩
  have := h b hb
  rw [h1, h2] at this; exact this
theorem sat_of_holds {v : List Int} {l : List Df.Bd} (h : Df.holdsB v l = true) : Sat v l := fun b hb => by
  simp only [Df.holdsB, Bool.and_eq_true, List.all_eq_true] at h
  have := h.2 b hb
  simp only [Df.okVal, Bool.and_eq_true, decide_eq_true_eq] at this
  exact this.2
theorem evB_mem {es : List Ev} {k : Nat} {b : Df.Bd} (h : b ∈ evB es k) (hk : k ≤ es.length) : ∃ i e, es[i]? = some e ∧ i < k ∧ (b = bd1 i e ∨ b = bd2 i e) := by
  simp only [evB, List.mem_flatMap, List.mem_range] at h
  obtain ⟨i, hi, h⟩ := h
  have hx : es[i]? = some es[i] := List.getElem?_eq_getElem (by omega)
  refine ⟨i, es[i], hx, hi, ?_⟩
  rw [List.getD_eq_getElem?_getD, hx] at h
  simpa using h
theorem evB_has {es : List Ev} {k i : Nat} {e : Ev} (h : es[i]? = some e) (hi : i < k) : bd1 i e ∈ evB es k ∧ bd2 i e ∈ evB es k := by
  simp only [evB, List.mem_flatMap, List.mem_range]
  constructor <;> exact ⟨i, hi, by rw [List.getD_eq_getElem?_getD, h]; simp⟩
theorem sqB_mem {d : List (List Int)} {es : List Ev} {out : List Nat} {k : Nat} {b : Df.Bd} (h : b ∈ sqB d es out k) (hk : k + 1 ≤ out.length ∨ k = 0) : ∃ i x y, out[i]? = some x ∧ out[i + 1]? = some y ∧ b = sqb d es x y := by
  simp only [sqB, List.mem_map, List.mem_range] at h
  obtain ⟨i, hi, h⟩ := h
  have hx : out[i]? = some out[i] := List.getElem?_eq_getElem (by omega)
  have hy : out[i + 1]? = some out[i + 1] := List.getElem?_eq_getElem (by omega)
  refine ⟨i, _, _, hx, hy, ?_⟩
  rw [List.getD_eq_getElem?_getD, hx, List.getD_eq_getElem?_getD, hy] at h
  exact h.symm
theorem sqB_has {d : List (List Int)} {es : List Ev} {out : List Nat} {k i x y : Nat} (hi : i < k) (hx : out[i]? = some x) (hy : out[i + 1]? = some y) : sqb d es x y ∈ sqB d es out k := by
  simp only [sqB, List.mem_map, List.mem_range]
  exact ⟨i, hi, by rw [List.getD_eq_getElem?_getD, hx, List.getD_eq_getElem?_getD, hy]; rfl⟩
theorem pw_at {α : Type} {R : α → α → Prop} {l : List α} (h : l.Pairwise R) {i : Nat} {x y : α} (hx : l[i]? = some x) (hy : l[i + 1]? = some y) : R x y := by
  obtain ⟨h1, rfl⟩ := List.getElem?_eq_some_iff.1 hx
  obtain ⟨h2, rfl⟩ := List.getElem?_eq_some_iff.1 hy
  exact List.pairwise_iff_getElem.1 h i (i + 1) h1 h2 (by omega)
theorem chain_of {α : Type} {R : α → α → Prop} : ∀ {l : List α}, (∀ i x y, l[i]? = some x → l[i + 1]? = some y → R x y) → Chain R l
  | [], _ => trivial
  | [_], _ => trivial
  | a :: b :: l, h => ⟨h 0 a b rfl rfl, chain_of (l := b :: l) (fun i x y hx hy => h (i + 1) x y (by simpa using hx) (by simpa using hy))⟩
theorem at_zero (x : List Int) : Df.at' (0 :: x) 0 = 0 := rfl
theorem at_one (x : List Int) (i : Nat) : Df.at' (0 :: x) ((i : Int) + 1) = at0 x i := by
  unfold Df.at' at0
  rw [show ((i : Int) + 1).toNat = i + 1 by omega]
  simp [List.getD_eq_getElem?_getD]
theorem at_drop (y : List Int) (i : Nat) : at0 (y.drop 1) i = Df.at' y ((i : Int) + 1) := by
  unfold Df.at' at0
  rw [show ((i : Int) + 1).toNat = i + 1 by omega]
  simp [List.getD_eq_getElem?_getD, Nat.add_comm]
/-- Times that are possible satisfy the bounds of their sequence. -/
theorem sat_times {d : List (List Int)} {es : List Ev} {x : List Int} {out : List Nat} (h : HoldsP d es x) (hs : SeqI d es x out) (hl : out.length = es.length) : Sat (0 :: x) (bdsL d es out) := fun b hb => by
  rcases List.mem_append.1 hb with hb | hb
  · obtain ⟨i, e, he, hi, rfl | rfl⟩ := evB_mem hb (Nat.le_refl _)
    · have := h.win i e he
      simp only [bd1, at_one, at_zero]; omega
    · have := h.win i e he
      simp only [bd2, at_one, at_zero]; omega
  · obtain ⟨i, p, q, hp, hq, rfl⟩ := sqB_mem hb (by omega)
    have := pw_at hs.pw hp hq
    have h2 := this.2
    simp only [sqb, at_one]; omega
theorem valid_times {d : List (List Int)} {es : List Ev} {x : List Int} {out : List Nat} (hd : DistOk d) (ho : ∀ e ∈ es, isOff d e.o) (h : HoldsP d es x) (hs : SeqI d es x out) (hl : out.length = es.length) (hn : es.length ≤ 15) : Df.validB ((es.length + 1 : Nat) : Int) (bdsL d es out) = true := by
  simp only [Df.validB, Bool.and_eq_true, List.all_eq_true]
  refine ⟨by simp [Df.inR]; omega, fun b hb => ?_⟩
  rcases List.mem_append.1 hb with hb | hb
  · obtain ⟨i, e, he, hi, rfl | rfl⟩ := evB_mem hb (Nat.le_refl _)
    · have := h.win i e he
      simp only [bd1, Df.okBd, Df.inR, Bool.and_eq_true]; refine ⟨⟨⟨decide_eq_true (by omega), decide_eq_true (by omega)⟩, decide_eq_true (by omega), decide_eq_true (by omega)⟩, decide_eq_true (by omega), decide_eq_true (by omega)⟩
    · have := h.win i e he
      simp only [bd2, Df.okBd, Df.inR, Bool.and_eq_true]; refine ⟨⟨⟨decide_eq_true (by omega), decide_eq_true (by omega)⟩, decide_eq_true (by omega), decide_eq_true (by omega)⟩, decide_eq_true (by omega), decide_eq_true (by omega)⟩
  · obtain ⟨i, p, q, hp, hq, rfl⟩ := sqB_mem hb (by omega)
    have hpl := hs.lt p (List.mem_of_getElem? hp)
    have hql := hs.lt q (List.mem_of_getElem? hq)
    have := hd.bnd _ _ (offA_off ho hpl) (offA_off ho hql)
    simp only [sqb, Df.okBd, Df.inR, Bool.and_eq_true]; refine ⟨⟨⟨decide_eq_true (by omega), decide_eq_true (by omega)⟩, decide_eq_true (by omega), decide_eq_true (by omega)⟩, decide_eq_true (by omega), decide_eq_true (by omega)⟩
theorem holds_times {d : List (List Int)} {es : List Ev} {x : List Int} {out : List Nat} (hd : DistOk d) (ho : ∀ e ∈ es, isOff d e.o) (h : HoldsP d es x) (hs : SeqI d es x out) (hl : out.length = es.length) (hn : es.length ≤ 15) : Df.holdsB (0 :: x) (bdsL d es out) = true := by
  have hv := valid_times hd ho h hs hl hn
  simp only [Df.validB, Bool.and_eq_true, List.all_eq_true] at hv
  simp only [Df.holdsB, Bool.and_eq_true, List.all_eq_true, Df.allIn]
  refine ⟨fun v hv => ?_, fun b hb => ?_⟩
  · rcases List.mem_cons.1 hv with rfl | hv
    · decide
    · obtain ⟨i, hi⟩ := List.getElem?_of_mem hv
      have hil := (List.getElem?_eq_some_iff.1 hi).1
      have hlen := h.len
      have := h.win i _ (List.getElem?_eq_getElem (by omega))
      have e : at0 x i = v := by simp [at0, List.getD_eq_getElem?_getD, hi]
      rw [e] at this
      simp [Df.inR]; omega
  · have h1 := hv.2 b hb
    have h2 := sat_times h hs hl b hb
    simp only [Df.okBd, Bool.and_eq_true] at h1
    simp only [Df.okVal, Bool.and_eq_true, decide_eq_true_eq]
    have hlen := h.len
    have e : ((0 :: x).length : Int) - 1 = ((es.length + 1 : Nat) : Int) - 1 := by simp [hlen]
    rw [e]
    exact ⟨h1.1, h2⟩
/-- All values that satisfy the bounds are possible times. -/
theorem holds_of_sat {d : List (List Int)} {es : List Ev} {x ts : List Int} {u : List Int} {out : List Nat} (hd : DistOk d) (ho : ∀ e ∈ es, isOff d e.o) (hs : SeqI d es x out) (hl : out.length = es.length) (hu : Sat u (bdsL d es out)) (hu0 : Df.at' u 0 = 0) (ht : ∀ i : Nat, at0 ts i = Df.at' u ((i : Int) + 1)) (hts : ts.length = es.length) : HoldsP d es ts := by
  have hfull := (nodup_full es.length out hs.nd hs.lt).2 hl
  refine holds_of_chain (s := out) hd ho hts (fun i e he => ?_) hfull hs.lt (chain_of fun i p q hp hq => ?_)
  · have hi := (List.getElem?_eq_some_iff.1 he).1
    have hm := evB_has he hi
    have h1 := hu _ (List.mem_append_left _ hm.1)
    have h2 := hu _ (List.mem_append_left _ hm.2)
    simp only [bd1, bd2] at h1 h2
    rw [hu0] at h1 h2
    rw [ht]; omega
  · have hi := (List.getElem?_eq_some_iff.1 hq).1
    have hm := hu _ (List.mem_append_right _ (sqB_has (d := d) (es := es) (k := es.length - 1) (by omega) hp hq))
    have h0 := (pw_at hs.pw hp hq).1
    simp only [sqb] at hm
    refine ⟨h0, ?_⟩
    rw [ht, ht]; omega
/-- Solve answers with the greatest values. -/
theorem solve_best {d : List (List Int)} {es : List Ev} {x : List Int} {out : List Nat} (hd : DistOk d) (ho : ∀ e ∈ es, isOff d e.o) (h : HoldsP d es x) (hs : SeqI d es x out) (hl : out.length = es.length) (hn : es.length ≤ 11) :
    Df.leastB (es.length + 1) (Df.startF (bdsL d es out)) = true ∧ Df.leastB (es.length + 1) (Df.startF (bdsL d es out ++ Df.extraL (es.length + 1) 1000000)) = true ∧
    Sat (Df.row0 (es.length + 1) (Df.solveM (es.length + 1) 1000000 (bdsL d es out))) (bdsL d es out) ∧ Df.at' (Df.row0 (es.length + 1) (Df.solveM (es.length + 1) 1000000 (bdsL d es out))) 0 = 0 ∧
    ∀ i, i < es.length → at0 x i ≤ Df.at' (Df.row0 (es.length + 1) (Df.solveM (es.length + 1) 1000000 (bdsL d es out))) ((i : Int) + 1) := by
  have hv := valid_times hd ho h hs hl (by omega)
  have hsat := sat_times h hs hl
  generalize bdsL d es out = l at *
  have hve := Df.extra_valid (most := 1000000) hv (by omega) (by decide)
  have hsatE : Sat (0 :: x) (l ++ Df.extraL (es.length + 1) 1000000) := fun b hb => by
    rcases List.mem_append.1 hb with hb | hb
    · exact hsat b hb
    · simp only [Df.extraL, List.mem_map, List.mem_range] at hb
      obtain ⟨k, hk, rfl⟩ := hb
      have := h.win k _ (List.getElem?_eq_getElem (by omega))
      simp only [at_one, at_zero]; omega
  have hl1 := (Df.close_iff hv (by omega)).2 (pot_noNeg (fun i => Df.at' (0 :: x) (i : Int)) hsat.edge)
  have hl2 := (Df.close_iff hve (by omega)).2 (pot_noNeg (fun i => Df.at' (0 :: x) (i : Int)) hsatE.edge)
  have hL := Df.close_least hve (by omega) hl2
  have hrow : ∀ j : Nat, j < es.length + 1 → Df.at' (Df.row0 (es.length + 1) (Df.solveM (es.length + 1) 1000000 l)) (j : Int) = Df.solveM (es.length + 1) 1000000 l 0 j := fun j hj => by
    unfold Df.at' Df.row0
    rw [show ((j : Int)).toNat = j by omega]
    simp [List.getD_eq_getElem?_getD, hj]
  have hne : ∀ j, j < es.length + 1 → Df.solveM (es.length + 1) 1000000 l 0 j ≠ Df.NoB := fun j hj => by
    rcases Nat.eq_zero_or_pos j with rfl | hp
    · rw [show Df.solveM (es.length + 1) 1000000 l 0 0 = 0 from hL.diag 0 (by omega)]; decide
    · refine (hL.full 0 j 1000000 (by omega) (Df.Wk.one ⟨⟨0, (j : Int), 1000000⟩, List.mem_append_right _ ?_, rfl, rfl, rfl⟩)).2.1
      simp only [Df.extraL, List.mem_map, List.mem_range]
      exact ⟨j - 1, by omega, by congr 1; omega⟩
  refine ⟨hl1, hl2, fun b hb => ?_, ?_, fun i hi => ?_⟩
  · have hm := Df.valid_mem hv hb
    obtain ⟨⟨f0, f1⟩, ⟨t0, t1⟩, -⟩ := hm
    obtain ⟨p, hp⟩ : ∃ p : Nat, b.f = (p : Int) := ⟨b.f.toNat, by omega⟩
    obtain ⟨q, hq⟩ : ∃ q : Nat, b.t = (q : Int) := ⟨b.t.toNat, by omega⟩
    rw [hp, hq, hrow p (by omega), hrow q (by omega)]
    have hw := hL.sound 0 p (hne p (by omega))
    have := (hL.full 0 q _ (by omega) (Df.Wk.trans hw (Df.Wk.one ⟨b, List.mem_append_left _ hb, hp, hq, rfl⟩))).2.2
    show Df.solveM (es.length + 1) 1000000 l 0 q - Df.solveM (es.length + 1) 1000000 l 0 p ≤ b.m
    have e : Df.solveM (es.length + 1) 1000000 l 0 q = Df.closeM (es.length + 1) (l ++ Df.extraL (es.length + 1) 1000000) 0 q := rfl
    have e2 : Df.solveM (es.length + 1) 1000000 l 0 p = Df.closeM (es.length + 1) (l ++ Df.extraL (es.length + 1) 1000000) 0 p := rfl
    rw [e, e2]; omega
  · rw [show (0 : Int) = ((0 : Nat) : Int) from rfl, hrow 0 (by omega)]; exact hL.diag 0 (by omega)
  · have e : ((i : Int) + 1) = ((i + 1 : Nat) : Int) := by omega
    rw [e, hrow (i + 1) (by omega)]
    have := pot_walk (fun i => Df.at' (0 :: x) (i : Int)) hsatE.edge (hL.sound 0 (i + 1) (hne (i + 1) (by omega)))
    have e2 : Df.solveM (es.length + 1) 1000000 l 0 (i + 1) = Df.closeM (es.length + 1) (l ++ Df.extraL (es.length + 1) 1000000) 0 (i + 1) := rfl
    have e3 : Df.at' (0 :: x) ((i + 1 : Nat) : Int) = at0 x i := by rw [← e]; exact at_one x i
    have e4 : Df.at' (0 :: x) ((0 : Nat) : Int) = 0 := rfl
    simp only [e3, e4] at this
    rw [e2]; omega
end Go.Proofs.Ythkmpegpmpdhaaa
