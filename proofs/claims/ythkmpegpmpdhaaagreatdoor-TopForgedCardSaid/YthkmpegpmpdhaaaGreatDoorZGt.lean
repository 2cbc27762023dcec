/- Part of the proof of TopOwnItem. Conditions: as stated in each theorem. -/
import Derived.Test.YthkmpegpmpdhaaaGreatDoorZGs
import Derived.Test.YthkmpegpmpdhaaaGreatDoorProg
import Derived.Test.YthkmpegpmpdhaaaGreatDoorZNt
import Derived.Test.YthkmpegpmpdhaaaGreatDoorZRq
import Derived.WalkMore
import Derived.Maps.OwnIn
import Derived.Deep.LoopGhost
import Derived.RangeFuncNested
import Derived.RangeFuncCalls
import Derived.RangeFuncLeaves
import Derived.RangeFuncWrites
import Derived.Shelf.Abstract
import Derived.Shelf.RegionOpen
import Derived.OwnWalkIn
import Derived.TacticsInMore
import Derived.LoopNIn
import Derived.LoopIn
import Derived.RangeFuncBound
import Derived.WalkKit
import Derived.WalkSpells
import Derived.WalkLawsBesides
import Derived.Laws.EntriesVeiled
import Derived.ProofKit
import Derived.OpenShut
import Derived.Lib.Hide
import Derived.BigQuiet
import Derived.Deep.QuietTactic
import Derived.Deep.CutRange
import Derived.StillTailTactics
import Derived.Lib.SliceRun
import Derived.RangeFuncRecord
import Derived.Carry
import Derived.ChangeKeysEq
import Derived.Below
import Derived.Laws.OwnMore
import Derived.Deep.AppendLies
import Derived.Deep.Draws
import Derived.Laws.Rows
import Derived.Maps.AppendAt
import Derived.RegionTactic
import Derived.OwnWalk
import Derived.Deep.RegionHeld3
namespace Go.Proofs.YthkmpegpmpdhaaaGreatDoor
section
open Go.Shelf Go.ChangeShapes Go.WideShapes Go.ChangeAt Go.RowKit
set_option linter.unusedSimpArgs false
set_option linter.unusedVariables false
theorem rowO_mem {ts : List Trk} {n i : Nat} {t : Trk} {x : Ob} : ∀ j, x ∈ rowO ts n i t j → ∃ m s, t.st[m]? = some s ∧ x ∈ stopO ts n i t m s := by
  intro j
  induction j with
  | zero => intro h; cases h
  | succ j ih =>
    intro h
    cases hs : t.st[j]? with
    | none => simp only [rowO, hs, List.append_nil] at h; exact ih h
    | some s =>
      rw [rowO_succ hs] at h
      rcases List.mem_append.1 h with h | h
      · exact ih h
      · exact ⟨j, s, hs, h⟩
theorem obsO_mem {ts : List Trk} {n : Nat} {x : Ob} : ∀ k, x ∈ obsO ts n k → ∃ m t j s, ts[m]? = some t ∧ t.st[j]? = some s ∧ x ∈ stopO ts n m t j s := by
  intro k
  induction k with
  | zero => intro h; cases h
  | succ k ih =>
    intro h
    cases hk : ts[k]? with
    | none => simp only [obsO, hk, List.append_nil] at h; exact ih h
    | some t =>
      rw [obsO_succ hk] at h
      rcases List.mem_append.1 h with h | h
      · exact ih h
      · obtain ⟨j, s, h1, h2⟩ := rowO_mem _ h
        exact ⟨k, t, j, s, hk, h1, h2⟩
/-- The contents of a manifest that is observed are labels of tracks that travel in it. -/
theorem ob_man {ts : List Trk} {n : Nat} {x : Ob} (hl : ∀ t ∈ ts, t.st.length = t.se.length + 1) (hx : x ∈ obsO ts n n) (h2 : x.ki = 2) : ∀ s ∈ x.con, ∃ t ∈ ts, x.lab ∈ t.se ∧ labR x.ti t.si t.lb = s := by
  obtain ⟨m, t, j, s, hm, hj, hx⟩ := obsO_mem _ hx
  unfold stopO at hx
  rcases List.mem_cons.1 hx with rfl | hx
  · simp at h2
  · split at hx
    · cases hx
    · rename_i q hq
      split at hx
      · cases hx
      · rename_i c hc
        split at hx
        · rename_i hcc
          obtain ⟨h3, h4⟩ := hcc
          have ok := allC_ok hl n q c hc
          rcases List.mem_cons.1 hx with rfl | hx
          · obtain ⟨t', e1, e2, e3⟩ := ok.first
            rw [h3, hm] at e1
            cases e1
            rw [h4, hj] at e2
            have e2 := Option.some.inj e2
            intro y hy
            simp only at hy ⊢
            unfold contF at hy
            obtain ⟨i, hi, rfl⟩ := List.mem_map.1 hy
            obtain ⟨k, rfl, u, hu, hqu⟩ := ok.ins i hi
            refine ⟨u, List.mem_of_getElem? hu, hqu, ?_⟩
            unfold labAt
            rw [Int.toNat_natCast, hu, Option.getD_some, e2]
          · rw [List.mem_singleton] at hx
            subst hx
            simp at h2
        · cases hx
theorem wfT_len {t : Trk} (h : WfT t) : t.st.length = t.se.length + 1 := by
  have h1 := h.1
  unfold stopsF at h1
  simp only [Bool.and_eq_true, decide_eq_true_eq] at h1
  exact h1.1
/-- The same of a manifest that is recorded. -/
theorem rec_man {ts : List Trk} {n : Nat} {g : Int → Option Nat} {L0 : List Rec} {x : Rec} (hw : wellF ts = true) (h0 : L0.map Rec.v = (keptO g (obsO ts n n)).map Ob.v) (hx : ∃ y ∈ L0, x.v = y.v) (h2 : x.ki = 2) : ∀ s ∈ x.con, ∃ t ∈ ts, x.lab ∈ t.se ∧ labR x.ti t.si t.lb = s := by
  obtain ⟨y, hy, e⟩ := hx
  have h1 : y.v ∈ L0.map Rec.v := List.mem_map.2 ⟨y, hy, rfl⟩
  rw [h0, ← e] at h1
  obtain ⟨o, ho, e2⟩ := List.mem_map.1 h1
  have ho2 : o ∈ obsO ts n n := (List.mem_filter.1 ho).1
  have e3 : o.ki = x.ki ∧ o.ti = x.ti ∧ o.lab = x.lab ∧ o.con = x.con := by
    unfold Ob.v Rec.v at e2
    simpa only [Prod.mk.injEq] using e2
  obtain ⟨a1, a2, a3, a4⟩ := e3
  have := ob_man (fun t ht => wfT_len (wellF_wf hw t ht)) ho2 (a1.trans h2)
  rw [a2, a3, a4] at this
  exact this
theorem aboveF_ne {row : List Int} (h : row ≠ []) : aboveF row ≠ [] := by
  match row, h with
  | [a], _ => simp [aboveF]
  | a :: b :: t, _ => simp [aboveF]
theorem rowsF_full : ∀ (f : Nat) (row : List Int), row ≠ [] → ∀ r ∈ rowsF f row, r ≠ []
  | 0, row, h, r, hr => by
    simp only [rowsF, List.mem_singleton] at hr
    subst hr; exact h
  | f + 1, row, h, r, hr => by
    rw [rowsF] at hr
    rcases List.mem_cons.1 hr with hr | hr
    · subst hr; exact h
    · split at hr
      · exact rowsF_full f _ (aboveF_ne h) r hr
      · cases hr
theorem rootOf_mem {L : List (List Int)} (hne : L ≠ []) (h : ∀ r ∈ L, r ≠ []) : ∃ r ∈ L, rootOf L ∈ r := by
  have hl := (List.dropLast_concat_getLast hne).symm
  have hm := List.getLast_mem hne
  generalize L.getLast hne = r at *
  refine ⟨r, hm, ?_⟩
  rw [hl, rootOf_snoc]
  cases r with
  | nil => exact absurd rfl (h [] hm)
  | cons a t => simp
theorem root_in {labels : List ByteArray} (h : labels ≠ []) : InTree labels (rootF labels) := by
  unfold InTree rootF
  refine rootOf_mem ?_ ?_
  · unfold treeF
    rw [if_neg h]
    exact rowsF_ne _ _
  · unfold treeF
    rw [if_neg h]
    refine rowsF_full _ _ ?_
    unfold leafF
    intro e
    exact h (List.map_eq_nil_iff.1 e)
/-- If a label's paper is accepted for the contents among which it is not, two different lists have one digest. -/
theorem forged_coll {con : List ByteArray} {lab : ByteArray} {ix : Int} {path : List Int} {ct : Int} (hne : con ≠ []) (hv : verE lab ix path ct (rootF con) = 0) (hno : lab ∉ con) :
    ∃ x ∈ (climbF lab ix path).2 ++ listsF con, ∃ y ∈ (climbF lab ix path).2 ++ listsF con, dgF x = dgF y ∧ x ≠ y := by
  have hu : unF lab ix path (rootF con) = false := by
    unfold verE at hv
    split at hv
    · simp at hv
    · split at hv
      · simp at hv
      · simp_all
  unfold unF at hu
  simp only [Bool.or_eq_false_iff, decide_eq_false_iff_not, Bool.not_eq_false', decide_eq_true_eq] at hu
  obtain ⟨h1, h2⟩ := hu
  refine climb_coll ?_ (by rw [h2]; exact root_in hne) hno
  cases hb : climbB ix path with
  | false => rfl
  | true =>
    exfalso
    apply h1
    unfold climbF
    rw [if_pos hb]
    rfl
end
section
open Go.Shelf Go.ChangeShapes Go.WideShapes Go.ChangeAt Go.RowKit
set_option linter.unusedSimpArgs false
set_option linter.unusedVariables false
/-- The word on the example's container. -/
abbrev sealX : ByteArray := ⟨#[67, 48, 46, 52, 56, 48]⟩
section
variable (a1 a2 a3 a4 a5 a6 b1 b2 b3 b4 b5 b6 : Nat)
theorem trkE_wf (c : UInt8) : WfT (trkE c a1 a2 a3 a4 a5 a6) := by
  refine ⟨rfl, by simp, rfl, ?_, 100, _, rfl, rfl, Int.le_refl _⟩
  intro i x y _ h1 h2
  simp at h2
theorem ex_wf : wellF [trkE 65 a1 a2 a3 a4 a5 a6, trkE 66 b1 b2 b3 b4 b5 b6] = true := by
  unfold wellF
  simp only [List.any_cons, List.any_nil, badW_no (trkE_wf _ _ _ _ _ _ _)]
  rfl
theorem ex_all : allC [trkE 65 a1 a2 a3 a4 a5 a6, trkE 66 b1 b2 b3 b4 b5 b6] 2 sealX = some ⟨⟨0, 100, 480, 0⟩, ⟨1, 600, -1, -1⟩, 0, 0, [0, 1]⟩ := by
  simp [allC, rowC, stepC, addIn, newC]
theorem ex_obs : (keptO (firstG (revEnum [⟨0, 0, 0⟩, ⟨1, 1, 0⟩])) (obsO [trkE 65 a1 a2 a3 a4 a5 a6, trkE 66 b1 b2 b3 b4 b5 b6] 2 2)).map Ob.v =
    [(1, 100, ⟨#[65]⟩, []), (2, 480, sealX, [⟨#[65]⟩, ⟨#[66]⟩]), (1, 600, sealX, []), (1, 600, ⟨#[65]⟩, []), (1, 100, ⟨#[66]⟩, []), (1, 600, ⟨#[66]⟩, [])] := by
  have h := ex_all a1 a2 a3 a4 a5 a6 b1 b2 b3 b4 b5 b6
  have e : obsO [trkE 65 a1 a2 a3 a4 a5 a6, trkE 66 b1 b2 b3 b4 b5 b6] 2 2 = [⟨0, 1, 100, ⟨#[65]⟩, []⟩, ⟨0, 2, 480, sealX, [⟨#[65]⟩, ⟨#[66]⟩]⟩, ⟨1, 1, 600, sealX, []⟩, ⟨1, 1, 600, ⟨#[65]⟩, []⟩, ⟨0, 1, 100, ⟨#[66]⟩, []⟩, ⟨1, 1, 600, ⟨#[66]⟩, []⟩] := by
    simp only [obsO, rowO, stopO, h, List.length_cons, List.length_nil, Nat.reduceAdd, List.getElem?_cons_zero, List.getElem?_cons_succ, List.getElem?_nil]
    simp [contF, labAt, labR]
  rw [e]
  rfl
end
theorem ex_sort (r0 r1 r2 r3 r4 r5 : Rec) (h : [r0, r1, r2, r3, r4, r5].map Rec.ti = [100, 480, 600, 600, 100, 600]) : (stabF cfT [r0, r1, r2, r3, r4, r5].toArray).toList = [r0, r4, r1, r2, r3, r5] := by
  simp only [List.map_cons, List.map_nil, List.cons.injEq, and_true] at h
  obtain ⟨h0, h1, h2, h3, h4, h5⟩ := h
  have t1 : Go.Sort.insInner (Go.Proofs.ltOf cfT) 0 1 #[r0, r1, r2, r3, r4, r5] = #[r0, r1, r2, r3, r4, r5] := by
    simp [Go.Sort.insInner, Go.Proofs.ltOf, cfT, cmpI, h0, h1, h2, h3, h4, h5]
  have t2 : Go.Sort.insInner (Go.Proofs.ltOf cfT) 0 2 #[r0, r1, r2, r3, r4, r5] = #[r0, r1, r2, r3, r4, r5] := by
    simp [Go.Sort.insInner, Go.Proofs.ltOf, cfT, cmpI, h0, h1, h2, h3, h4, h5]
  have t3 : Go.Sort.insInner (Go.Proofs.ltOf cfT) 0 3 #[r0, r1, r2, r3, r4, r5] = #[r0, r1, r2, r3, r4, r5] := by
    simp [Go.Sort.insInner, Go.Proofs.ltOf, cfT, cmpI, h0, h1, h2, h3, h4, h5]
  have t4 : Go.Sort.insInner (Go.Proofs.ltOf cfT) 0 4 #[r0, r1, r2, r3, r4, r5] = #[r0, r4, r1, r2, r3, r5] := by
    simp [Go.Sort.insInner, Go.Sort.swp, Go.Proofs.ltOf, cfT, cmpI, h0, h1, h2, h3, h4, h5]
  have t5 : Go.Sort.insInner (Go.Proofs.ltOf cfT) 0 5 #[r0, r4, r1, r2, r3, r5] = #[r0, r4, r1, r2, r3, r5] := by
    simp [Go.Sort.insInner, Go.Proofs.ltOf, cfT, cmpI, h0, h1, h2, h3, h4, h5]
  unfold stabF Go.Sort.insertionSort
  have s : ∀ (i : Nat) (d : Array Rec), i < 6 → Go.Sort.insOuter (Go.Proofs.ltOf cfT) 0 6 i d = Go.Sort.insOuter (Go.Proofs.ltOf cfT) 0 6 (i + 1) (Go.Sort.insInner (Go.Proofs.ltOf cfT) 0 i d) := fun i d hi => by
    rw [Go.Sort.insOuter, if_pos hi]
  have s6 : ∀ d : Array Rec, Go.Sort.insOuter (Go.Proofs.ltOf cfT) 0 6 6 d = d := fun d => by
    rw [Go.Sort.insOuter, if_neg (by omega)]
  change (Go.Sort.insOuter (Go.Proofs.ltOf cfT) 0 6 1 #[r0, r1, r2, r3, r4, r5]).toList = _
  rw [s 1 _ (by omega), t1, s 2 _ (by omega), t2, s 3 _ (by omega), t3, s 4 _ (by omega), t4, s 5 _ (by omega), t5, s6]
/-- The example's records. -/
theorem ex_recs {L L0 : List Rec} (h0 : L0.map Rec.v = [(1, 100, ⟨#[65]⟩, []), (2, 480, sealX, [⟨#[65]⟩, ⟨#[66]⟩]), (1, 600, sealX, []), (1, 600, ⟨#[65]⟩, []), (1, 100, ⟨#[66]⟩, []), (1, 600, ⟨#[66]⟩, [])])
    (h1 : L0.length < 20 → L.map Rec.v = (stabF cfT L0.toArray).toList.map Rec.v) :
    L.map Rec.v = [(1, 100, ⟨#[65]⟩, []), (1, 100, ⟨#[66]⟩, []), (2, 480, sealX, [⟨#[65]⟩, ⟨#[66]⟩]), (1, 600, sealX, []), (1, 600, ⟨#[65]⟩, []), (1, 600, ⟨#[66]⟩, [])] := by
  have hlen : L0.length = 6 := by simpa using congrArg List.length h0
  match L0, hlen with
  | [r0, r1, r2, r3, r4, r5], _ =>
    rw [h1 (by simp)]
    simp only [List.map_cons, List.map_nil, List.cons.injEq, and_true] at h0
    obtain ⟨e0, e1, e2, e3, e4, e5⟩ := h0
    rw [ex_sort r0 r1 r2 r3 r4 r5 (by
      unfold Rec.v at e0 e1 e2 e3 e4 e5
      simp only [Prod.mk.injEq] at e0 e1 e2 e3 e4 e5
      simp only [List.map_cons, List.map_nil, e0.2.1, e1.2.1, e2.2.1, e3.2.1, e4.2.1, e5.2.1])]
    simp only [List.map_cons, List.map_nil, e0, e1, e2, e3, e4, e5]
/-- The paper of the second item, and that of another label. -/
theorem ex_lab : areContF [⟨#[65]⟩, ⟨#[66]⟩] = true := by decide
theorem ex_mal : malF [5, 6] (doc2 [5, 6] (doc0 0 1 sealX 480 [⟨#[65]⟩, ⟨#[66]⟩])) = false := by decide
theorem ex_good : verE ⟨#[66]⟩ 1 [leafOf ⟨#[65]⟩] 2 (rootF [⟨#[65]⟩, ⟨#[66]⟩]) = 0 := by decide
theorem ex_wrong : verE ⟨#[88]⟩ 1 [leafOf ⟨#[65]⟩] 2 (rootF [⟨#[65]⟩, ⟨#[66]⟩]) = 190 := by decide
/-- Contents are few. -/
theorem ob_len {ts : List Trk} {n : Nat} {x : Ob} (hl : ∀ t ∈ ts, t.st.length = t.se.length + 1) (hx : x ∈ obsO ts n n) : x.con.length ≤ 40 := by
  obtain ⟨m, t, j, s, hm, hj, hx⟩ := obsO_mem _ hx
  unfold stopO at hx
  rcases List.mem_cons.1 hx with rfl | hx
  · simp
  · split at hx
    · cases hx
    · rename_i q hq
      split at hx
      · cases hx
      · rename_i c hc
        split at hx
        · have ok := allC_ok hl n q c hc
          rcases List.mem_cons.1 hx with rfl | hx
          · simp only [contF, List.length_map]
            exact ok.few
          · rw [List.mem_singleton] at hx
            subst hx
            simp
        · cases hx
theorem rec_len {ts : List Trk} {n : Nat} {g : Int → Option Nat} {L0 : List Rec} {x : Rec} (hw : wellF ts = true) (h0 : L0.map Rec.v = (keptO g (obsO ts n n)).map Ob.v) (hx : ∃ y ∈ L0, x.v = y.v) : x.con.length ≤ 40 := by
  obtain ⟨y, hy, e⟩ := hx
  have h1 : y.v ∈ L0.map Rec.v := List.mem_map.2 ⟨y, hy, rfl⟩
  rw [h0, ← e] at h1
  obtain ⟨o, ho, e2⟩ := List.mem_map.1 h1
  have ho2 : o ∈ obsO ts n n := (List.mem_filter.1 ho).1
  have e3 : o.ki = x.ki ∧ o.ti = x.ti ∧ o.lab = x.lab ∧ o.con = x.con := by
    unfold Ob.v Rec.v at e2
    simpa only [Prod.mk.injEq] using e2
  rw [← e3.2.2.2]
  exact ob_len (fun t ht => wfT_len (wellF_wf hw t ht)) ho2
theorem labR_mem (ti : Int) (si : List Int) (lb : List ByteArray) : labR ti si lb = ByteArray.empty ∨ labR ti si lb ∈ lb := by
  unfold labR
  have h : ∀ (l : List (Int × ByteArray)) (o : ByteArray), (∀ p ∈ l, p.2 ∈ lb) → (o = ByteArray.empty ∨ o ∈ lb) → (l.foldl (fun o p => if p.1 ≤ ti then p.2 else o) o = ByteArray.empty ∨ l.foldl (fun o p => if p.1 ≤ ti then p.2 else o) o ∈ lb) := by
    intro l
    induction l with
    | nil => intro o _ ho; exact ho
    | cons p l ih =>
      intro o hl ho
      rw [List.foldl_cons]
      refine ih _ (fun q hq => hl q (List.mem_cons_of_mem _ hq)) ?_
      split
      · exact .inr (hl p List.mem_cons_self)
      · exact ho
  exact h _ _ (fun p hp => (List.of_mem_zip hp).2) (.inl rfl)
/-- What the example's records are. -/
def ExR (w : World) (e : Ending) (w' : World) : Prop := ∃ (g c' xc : Nat) (sc nu : Int) (xA : Option Addr), e = .returned (.slice (some ⟨g, 0, none⟩) 6 c') ∧ Keeps w w' ∧
  (w'.cell? ⟨g, 12, none⟩ = some (.int .i64 sc) ∧ w'.cell? ⟨g, 13, none⟩ = some (.int .i64 nu) ∧ w'.cell? ⟨g, 14, none⟩ = some (.int .i64 2) ∧ w'.cell? ⟨g, 15, none⟩ = some (.int .i64 480) ∧ w'.cell? ⟨g, 16, none⟩ = some (.string sealX) ∧ w'.cell? ⟨g, 17, none⟩ = some (.slice xA 2 xc)) ∧
  RecIn strR w' w'.heap.size xA [⟨#[65]⟩, ⟨#[66]⟩]
theorem ex_records (lA tA : Option Addr) (lc tc a1 a2 a3 a4 a5 a6 b1 b2 b3 b4 b5 b6 : Nat) (w : World) (hl : RecIn scR w w.heap.size lA [⟨0, 0, 0⟩, ⟨1, 1, 0⟩]) (hT : RecIn tkR w w.heap.size tA [trkE 65 a1 a2 a3 a4 a5 a6, trkE 66 b1 b2 b3 b4 b5 b6])
    (o1 : TrkOk w w.heap.size (trkE 65 a1 a2 a3 a4 a5 a6)) (o2 : TrkOk w w.heap.size (trkE 66 b1 b2 b3 b4 b5 b6)) :
    Calls Tryz.prog 17 #[.slice lA 2 lc, .slice tA 2 tc] w (ExR w) := by
  have two : ∀ (Q : Trk → Prop), Q (trkE 65 a1 a2 a3 a4 a5 a6) → Q (trkE 66 b1 b2 b3 b4 b5 b6) → ∀ t ∈ [trkE 65 a1 a2 a3 a4 a5 a6, trkE 66 b1 b2 b3 b4 b5 b6], Q t := fun Q h1 h2 t ht => by
    rcases List.mem_cons.1 ht with rfl | ht
    · exact h1
    · rcases List.mem_cons.1 ht with rfl | ht
      · exact h2
      · cases ht
  refine (records17 _ _ lA tA 2 lc 2 tc w hl (Lib.hid rfl) (by decide) hT (Lib.hid rfl) (by decide) ⟨two _ o1 o2, two _ (by simp) (by simp), two _ (by simp) (by simp), two _ (by simp) (by simp), two _ (by simp) (by simp)⟩ (two _ (by simp) (by simp))).mono ?_
  rintro e w' (⟨_, _, hn⟩ | ⟨_, _, A', n', c', L, L0, rfl, hO, hC, h0, h1, h2⟩)
  · exact absurd ⟨rfl, ex_wf _ _ _ _ _ _ _ _ _ _ _ _⟩ hn
  · have hv := ex_recs (h0.trans (ex_obs _ _ _ _ _ _ _ _ _ _ _ _)) h2
    have hlen : L.length = 6 := by simpa using congrArg List.length hv
    match L, hlen with
    | [r0, r1, r2, r3, r4, r5], _ =>
      simp only [List.map_cons, List.map_nil, List.cons.injEq, and_true] at hv
      have e2 := hv.2.2.1
      obtain ⟨sc, nu, ki, ti, lab, con, xA, xc⟩ := r2
      unfold Rec.v at e2
      simp only [Prod.mk.injEq] at e2
      obtain ⟨rfl, rfl, rfl, rfl⟩ := e2
      have hc2 := hC _ (List.mem_cons_of_mem _ (List.mem_cons_of_mem _ List.mem_cons_self))
      obtain ⟨g, cap, ev, _, hg⟩ := hO.form (by simp)
      have hr := (hO.recs rcOk).1
      have hk := hO.2
      simp only [Value.slice.injEq] at ev
      obtain ⟨rfl, rfl, rfl⟩ := ev
      obtain ⟨b, off, eb, hb, hc⟩ := hr 2 _ rfl
      simp only [Option.some.injEq, Addr.mk.injEq, and_true] at eb
      obtain ⟨rfl, rfl⟩ := eb
      exact ⟨g, _, xc, sc, nu, xA, rfl, hk, ⟨hc 0 _ rfl, hc 1 _ rfl, hc 2 _ rfl, hc 3 _ rfl, hc 4 _ rfl, hc 5 _ rfl⟩, hc2⟩
theorem ex_mal0 : malF [5, 6] (doc0 0 1 sealX 480 [⟨#[65]⟩, ⟨#[66]⟩]) = false := by decide
theorem ex_write (KA CA : Option Addr) (kc cc : Nat) (w : World) (hk : RecIn intR w w.heap.size KA [5, 6]) (hc : RecIn strR w w.heap.size CA [⟨#[65]⟩, ⟨#[66]⟩]) (ht : Tab w) :
    Calls Tryz.prog 18 #[.slice KA 2 kc, .int .i64 0, .int .i64 1, .string sealX, .int .i64 480, .slice CA 2 cc] w fun e w' => ∃ sl fr tw ti ct rt gv tk, e = .returned (.tuple #[.agg #[.string sl, .int .i64 fr, .int .i64 tw, .int .i64 ti, .int .i64 ct, .int .i64 rt, .int .i64 gv, .int .i64 tk], .int .i64 0]) ∧
      Hid ((⟨sl, fr, tw, ti, ct, rt, gv, tk⟩ : Dc) = doc2 [5, 6] (doc0 0 1 sealX 480 [⟨#[65]⟩, ⟨#[66]⟩])) ∧ Keeps w w' := by
  refine (write_ok [5, 6] 0 1 sealX 480 [⟨#[65]⟩, ⟨#[66]⟩] KA 2 kc CA 2 cc w hk (Lib.hid rfl) (by decide) (by decide) hc (Lib.hid rfl) (by decide) (by decide) ht ex_lab ex_mal0).mono ?_
  rintro e w' ⟨⟨d, er, rfl, h, -⟩, hk⟩
  obtain ⟨rfl, hd⟩ := h rfl
  obtain ⟨sl, fr, tw, ti, ct, rt, gv, tk⟩ := d
  exact ⟨sl, fr, tw, ti, ct, rt, gv, tk, rfl, Lib.hid hd, hk⟩
theorem ex_verify (sl : ByteArray) (fr tw ti ct rt gv tk : Int) (hd : Hid ((⟨sl, fr, tw, ti, ct, rt, gv, tk⟩ : Dc) = doc2 [5, 6] (doc0 0 1 sealX 480 [⟨#[65]⟩, ⟨#[66]⟩]))) (lab : ByteArray) (hs : lab.size ≤ 1000) (KA PA : Option Addr) (kc pc : Nat) (v : Int) (hv : verE lab 1 [leafOf ⟨#[65]⟩] 2 (rootF [⟨#[65]⟩, ⟨#[66]⟩]) = v) (w : World) (hk : RecIn intR w w.heap.size KA [5, 6]) (hp : RecIn intR w w.heap.size PA [leafOf ⟨#[65]⟩]) (ht : Tab w) :
    Calls Tryz.prog 19 #[.slice KA 2 kc, .agg #[.string sl, .int .i64 fr, .int .i64 tw, .int .i64 ti, .int .i64 ct, .int .i64 rt, .int .i64 gv, .int .i64 tk, .string lab, .int .i64 1, .slice PA 1 pc]] w fun e w' => e = .returned (.int .i64 v) ∧ Keeps w w' := by
  have e := hd.out
  have h := verify19 ⟨sl, fr, tw, ti, ct, rt, gv, tk⟩ [5, 6] KA 2 kc lab 1 [leafOf ⟨#[65]⟩] PA 1 pc w hk (Lib.hid rfl) (by decide) (by rw [e]; decide) ht hp (Lib.hid rfl) (by decide) (by omega) (by decide) (by rw [e]; exact malF_doc2 ex_mal0) (by rw [e]; rfl) (by rw [e]; rfl)
  have ec : ct = 2 := congrArg Dc.ct e
  have er : rt = rootF [⟨#[65]⟩, ⟨#[66]⟩] := congrArg Dc.rt e
  simp only at h
  rw [ec, er] at h
  rw [hv] at h
  rw [ec, er]
  exact h
/-- What Write leaves behind in the example. -/
def ExD (w0 : World) (a b : Value) (wx : World) : Prop := ∃ (db : Nat) (sl : ByteArray) (fr tw ti ct rt gv tk : Int), a = .pointer (some ⟨db, 0, none⟩) ∧ b = .int .i64 0 ∧ Keeps w0 wx ∧
  Blk wx db 54 #[.string sl, .int .i64 fr, .int .i64 tw, .int .i64 ti, .int .i64 ct, .int .i64 rt, .int .i64 gv, .int .i64 tk] ∧ Hid ((⟨sl, fr, tw, ti, ct, rt, gv, tk⟩ : Dc) = doc2 [5, 6] (doc0 0 1 sealX 480 [⟨#[65]⟩, ⟨#[66]⟩]))
end
section
open Go.Shelf Go.ChangeShapes Go.WideShapes Go.ChangeAt Go.RowKit
set_option linter.unusedSimpArgs false
set_option linter.unusedVariables false
theorem climbGo_sz : ∀ (path : List Int) (i d : Int) (ls : List (List Int)), (climbGo path i d ls).2.length ≤ ls.length + path.length ∧ ∀ r ∈ (climbGo path i d ls).2, r ∈ ls ∨ r.length = 3
  | [], i, d, ls => ⟨by simp [climbGo], fun r hr => .inl (by simpa [climbGo] using hr)⟩
  | b :: path, i, d, ls => by
    have key : ∀ (d' : Int) (x : List Int), x.length = 3 → (climbGo path (i.tdiv 2) d' (ls ++ [x])).2.length ≤ ls.length + (b :: path).length ∧ ∀ r ∈ (climbGo path (i.tdiv 2) d' (ls ++ [x])).2, r ∈ ls ∨ r.length = 3 := fun d' x hx => by
      have h := climbGo_sz path (i.tdiv 2) d' (ls ++ [x])
      refine ⟨by have := h.1; simp only [List.length_append, List.length_cons, List.length_nil] at this ⊢; omega, fun r hr => ?_⟩
      rcases h.2 r hr with h | h
      · rcases List.mem_append.1 h with h | h
        · exact .inl h
        · rw [List.mem_singleton] at h
          subst h
          exact .inr hx
      · exact .inr h
    unfold climbGo
    split
    · have h := climbGo_sz path (i.tdiv 2) d ls
      exact ⟨by have := h.1; simp only [List.length_cons]; omega, h.2⟩
    · split
      · exact key _ _ rfl
      · exact key _ _ rfl
theorem climbF_sz (lab : ByteArray) (i : Int) (path : List Int) : (climbF lab i path).2.length ≤ 2 + path.length ∧ ∀ r ∈ (climbF lab i path).2, r.length ≤ lab.size + 3 := by
  unfold climbF
  split
  · exact ⟨by simp, fun r hr => by cases hr⟩
  · have h := climbGo_sz path i (dgF [0, dgF (codes lab)]) [codes lab, [0, dgF (codes lab)]]
    refine ⟨by simpa using h.1, fun r hr => ?_⟩
    rcases h.2 r hr with h | h
    · simp only [List.mem_cons, List.not_mem_nil, or_false] at h
      rcases h with rfl | rfl
      · rw [codes_len]; omega
      · simp only [List.length_cons, List.length_nil]; omega
    · omega
theorem pairsF_sz : ∀ row : List Int, (pairsF row).length ≤ row.length ∧ ∀ r ∈ pairsF row, r.length = 3
  | [] => ⟨by simp [pairsF], fun r hr => by cases hr⟩
  | [a] => ⟨by simp [pairsF], fun r hr => by cases hr⟩
  | a :: b :: t => by
    have h := pairsF_sz t
    rw [pairsF]
    refine ⟨by have := h.1; simp only [List.length_cons]; omega, fun r hr => ?_⟩
    rcases List.mem_cons.1 hr with rfl | hr
    · rfl
    · exact h.2 r hr
theorem rowsF_sz : ∀ (f : Nat) (row : List Int), (rowsF f row).length ≤ f + 1 ∧ ∀ r ∈ rowsF f row, r.length ≤ row.length
  | 0, row => ⟨by simp [rowsF], fun r hr => by simp only [rowsF, List.mem_singleton] at hr; subst hr; exact Nat.le_refl _⟩
  | f + 1, row => by
    rw [rowsF]
    split
    · have h := rowsF_sz f (aboveF row)
      have ha := aboveF_len row
      refine ⟨by have := h.1; simp only [List.length_cons]; omega, fun r hr => ?_⟩
      rcases List.mem_cons.1 hr with rfl | hr
      · exact Nat.le_refl _
      · have := h.2 r hr; omega
    · refine ⟨by simp, fun r hr => ?_⟩
      rw [List.mem_singleton] at hr
      subst hr
      exact Nat.le_refl _
theorem flat_sz {α β : Type} (f : α → List β) (K : Nat) : ∀ l : List α, (∀ x ∈ l, (f x).length ≤ K) → (l.flatMap f).length ≤ l.length * K
  | [], _ => by simp
  | x :: l, h => by
    rw [List.flatMap_cons, List.length_append, List.length_cons, Nat.succ_mul]
    have h1 := h x (by simp)
    have h2 := flat_sz f K l (fun y hy => h y (by simp [hy]))
    omega
theorem listsF_sz (con : List ByteArray) (h : con.length ≤ 40) (hs : ∀ s ∈ con, s.size ≤ 20) : (listsF con).length ≤ 2000 ∧ ∀ r ∈ listsF con, r.length ≤ 23 := by
  have ht : (treeF con).length ≤ 41 ∧ ∀ r ∈ treeF con, r.length ≤ 40 := by
    unfold treeF
    split
    · exact ⟨by simp, fun r hr => by cases hr⟩
    · have h1 := rowsF_sz con.length (leafF con)
      have h2 : (leafF con).length = con.length := by simp [leafF]
      exact ⟨by omega, fun r hr => by have := h1.2 r hr; omega⟩
  unfold listsF
  constructor
  · rw [List.length_append]
    have h1 := flat_sz (fun s => [codes s, [0, dgF (codes s)]]) 2 con (fun x _ => by simp)
    have h2 := flat_sz pairsF 40 (treeF con).dropLast (fun r hr => Nat.le_trans (pairsF_sz r).1 (ht.2 r (List.dropLast_subset _ hr)))
    have h3 : (treeF con).dropLast.length ≤ 40 := by rw [List.length_dropLast]; omega
    have h4 : (treeF con).dropLast.length * 40 ≤ 40 * 40 := Nat.mul_le_mul_right 40 h3
    omega
  · intro r hr
    rcases List.mem_append.1 hr with hr | hr
    · obtain ⟨s, hs1, hs2⟩ := List.mem_flatMap.1 hr
      simp only [List.mem_cons, List.not_mem_nil, or_false] at hs2
      rcases hs2 with rfl | rfl
      · rw [codes_len]; have := hs s hs1; omega
      · simp
    · obtain ⟨s, _, hs2⟩ := List.mem_flatMap.1 hr
      have := (pairsF_sz s).2 r hs2
      omega
/-- An append in a region that draws its order, behind a guard that lets it. -/
theorem step_appRw {α : Type} {R : RowTy α} {P : Program} (ok : RowOk P R) {w0 w : World} {ops : Array Oper} {o : Oper} {a : Act} {K : Act → World → Prop} {Q : Exit → Act → World → Prop} {E : Prop} (hwd : Region.wanted o (yielded ops a.tmps) = true) (s x : Operand)
    (ho : o.op = .call { callee := .builtin .append, args := #[s, x], argTypes := #[R.S, R.S] })
    (v : Value) (l : List α) (hs : a.eval s = v) (hown : OwnR R w0 w v l)
    (A : Option Addr) (m c : Nat) (l2 : List α) (hx : a.eval x = .slice A m c) (hr : RecIn R w w.heap.size A l2) (hm : Hid (m = l2.length)) (hle : Hid (l.length + l2.length ≤ 1000000))
    (h : ∀ A' n' c' w', OwnR R w0 w' (.slice A' n' c') (l ++ l2) → w.grownBy w' v.ownBlock → K (a.put o.dst (.slice A' n' c')) w') : if Region.wanted o (yielded ops a.tmps) = true then Oper.wp P o a w K Q else E := by
  obtain ⟨i0, z, hi0, hz0, hz1, hz2, hz3⟩ := ok.info
  have hle' := hle.out
  have hm' := hm.out
  subst hm'
  have hby : (l.length + l2.length) * R.by' ≤ 1000000 * 1000 := Nat.mul_le_mul hle' ok.few
  rw [if_pos hwd]
  refine wp_append_any w s x R.S ho w0.heap.size R.T i0 z R.k R.by' ok.und hi0 hz0 hz1 hz2 hz3 ok.pos v l.length (recCells R l) hs hown.1 w.heap.size A l2.length c (recCells R l2) hx (hr.reads ok) (recCells_oneCell ok l2) (by unfold maxLen; omega) (by omega) hown.2.size ?_
  intro v' w' h1 h2 _
  obtain ⟨A', c', rfl⟩ := own_slice h1
  refine h A' _ c' w' ⟨?_, grown_keeps hown.2 h2 (fun k hk => (own_lt hown.1 hk).1)⟩ h2
  rw [← List.length_append, ← recCells_append] at h1
  rw [← List.length_append]
  exact h1
theorem few_yes (ts : List Trk) (lA tA : Option Addr) (n lc m tc : Nat) (w : World) (ht : RecIn tkR w w.heap.size tA ts) (hm : Hid (m = ts.length)) (hmx : m ≤ 9223372036854775807) (h : FewT n ts) :
    Calls Tryz.prog 15 #[.slice lA n lc, .slice tA m tc, .slice none 0 0] w fun e w' => e = .returned (.bool true) ∧ w = w' :=
  (few15 ts lA tA n lc m tc w ht hm hmx).mono (by rintro e w' ⟨⟨b, rfl, hb⟩, rfl⟩; rw [hb.2 h]; exact ⟨rfl, rfl⟩)
theorem few_no (ts : List Trk) (lA tA : Option Addr) (n lc m tc : Nat) (w : World) (ht : RecIn tkR w w.heap.size tA ts) (hm : Hid (m = ts.length)) (hmx : m ≤ 9223372036854775807) (h : ¬ FewT n ts) :
    Calls Tryz.prog 15 #[.slice lA n lc, .slice tA m tc, .slice none 0 0] w fun e w' => e = .returned (.bool false) ∧ w = w' :=
  (few15 ts lA tA n lc m tc w ht hm hmx).mono (by rintro e w' ⟨⟨b, rfl, hb⟩, rfl⟩; cases b <;> first | exact ⟨rfl, rfl⟩ | exact absurd (hb.1 rfl) h)
theorem keys_yes (l : List Int) (A : Option Addr) (n c : Nat) (w : World) (h : RecIn intR w w.heap.size A l) (hn : Hid (n = l.length)) (hnm : n ≤ 9223372036854775807) (hk : KeysOk l) :
    Calls Tryz.prog 16 #[.slice A n c] w fun e w' => e = .returned (.bool true) ∧ w = w' :=
  (keys16 l A n c w h hn hnm).mono (by rintro e w' ⟨⟨b, rfl, hb⟩, rfl⟩; rw [hb.2 hk]; exact ⟨rfl, rfl⟩)
theorem keys_no (l : List Int) (A : Option Addr) (n c : Nat) (w : World) (h : RecIn intR w w.heap.size A l) (hn : Hid (n = l.length)) (hnm : n ≤ 9223372036854775807) (hk : ¬ KeysOk l) :
    Calls Tryz.prog 16 #[.slice A n c] w fun e w' => e = .returned (.bool false) ∧ w = w' :=
  (keys16 l A n c w h hn hnm).mono (by rintro e w' ⟨⟨b, rfl, hb⟩, rfl⟩; cases b <;> first | exact ⟨rfl, rfl⟩ | exact absurd (hb.1 rfl) hk)
/-- What the law wants of the records. -/
def RecsL (ts : List Trk) (w : World) (e : Ending) (w' : World) : Prop := ∃ (A : Option Addr) (n c : Nat) (L : List Rec), e = .returned (.slice A n c) ∧ Keeps w w' ∧ n = L.length ∧ RecIn rcR w' w'.heap.size A L ∧
  ∀ x ∈ L, RecIn strR w' w'.heap.size x.A x.con ∧ x.con.length ≤ 40 ∧ (∀ t ∈ ts, WfT t) ∧ (x.ki = 2 → ∀ s ∈ x.con, ∃ t ∈ ts, x.lab ∈ t.se ∧ labR x.ti t.si t.lb = s)
theorem recs_any (l : List Scn) (ts : List Trk) (lA tA : Option Addr) (nl lc n tc : Nat) (w : World) (hl : RecIn scR w w.heap.size lA l) (hnl : Hid (nl = l.length)) (nl9 : nl ≤ 1000) (hT : RecIn tkR w w.heap.size tA ts) (hn : Hid (n = ts.length)) (n9 : n ≤ 8)
    (ok : TrksOk w w.heap.size ts) (hst : ∀ t ∈ ts, t.st.length ≤ 20) : Calls Tryz.prog 17 #[.slice lA nl lc, .slice tA n tc] w (RecsL ts w) := by
  refine (records17 l ts lA tA nl lc n tc w hl hnl nl9 hT hn n9 ok hst).mono ?_
  rintro e w' (⟨rfl, hk, -⟩ | ⟨-, hw, A', n', c', L, L0, rfl, hO, hC, h0, h1, -⟩)
  · exact ⟨none, 0, 0, [], rfl, hk, rfl, recIn_nil _ _, fun x hx => by cases hx⟩
  · exact ⟨A', n', c', L, rfl, hO.2, own_lenR hO, (hO.recs rcOk).1, fun x hx => ⟨hC x hx, rec_len hw h0 (h1 x hx), wellF_wf hw, fun h2 => rec_man hw h0 (h1 x hx) h2⟩⟩
def WriteQ (ks : List Int) (con : List ByteArray) (d0 : Dc) (w : World) (e : Ending) (w' : World) : Prop :=
  (∃ d er, e = .returned (.tuple #[docA d, .int .i64 er]) ∧ (er = 0 → areContF con = true ∧ malF ks d0 = false ∧ d = doc2 ks d0)) ∧ Keeps w w'
theorem write_any (ks : List Int) (fr tw : Int) (lab : ByteArray) (ti : Int) (con : List ByteArray) (KA : Option Addr) (kn kc : Nat) (CA : Option Addr) (cn cc : Nat) (w : World) (hk : RecIn intR w w.heap.size KA ks) (hkn : Hid (kn = ks.length)) (hkx : kn ≤ 1000000) (hl : con ≠ [] → lab.size ≤ 9223372036854775807)
    (hc : RecIn strR w w.heap.size CA con) (hcn : Hid (cn = con.length)) (hcx : cn ≤ 1000000) (hcs : ∀ s ∈ con, s.size ≤ 9223372036854775807) (ht : Tab w) :
    Calls Tryz.prog 18 #[.slice KA kn kc, .int .i64 fr, .int .i64 tw, .string lab, .int .i64 ti, .slice CA cn cc] w (WriteQ ks con (doc0 fr tw lab ti con) w) := by
  cases hok : areContF con
  · refine (write_bad fr tw lab ti con (.slice KA kn kc) CA cn cc w hc hcn hcx hcs ht hok ⟨lab, 0, 0, 0, 0, 0, 0, 0⟩).mono ?_
    rintro e w' ⟨⟨d', er, rfl, -, h⟩, hk⟩
    exact ⟨⟨d', er, rfl, fun h0 => absurd ((h rfl).symm.trans h0) (by decide)⟩, hk⟩
  · have hne : con ≠ [] := by
      rintro rfl
      exact absurd hok (by decide)
    have hsm : ∀ s ∈ con, s.size ≤ 1000000 := fun s hs => by
      simp only [areContF, Bool.and_eq_true, List.all_eq_true] at hok
      have := label_small (hok.2.2 s hs)
      omega
    cases hm : malF ks (doc0 fr tw lab ti con)
    · have hls : lab.size ≤ 20 := label_small (malF_range hm).1
      refine (write_ok ks fr tw lab ti con KA kn kc CA cn cc w hk hkn hkx (by omega) hc hcn hcx hsm ht hok hm).mono ?_
      rintro e w' ⟨⟨d', er, rfl, h, -⟩, hk⟩
      exact ⟨⟨d', er, rfl, fun _ => ⟨hok, hm, (h rfl).2⟩⟩, hk⟩
    · refine (write_mal ks fr tw lab ti con KA kn kc CA cn cc w hk hkn hkx (hl hne) hc hcn hcx hsm ht hok hm ⟨lab, 0, 0, 0, 0, 0, 0, 0⟩).mono ?_
      rintro e w' ⟨⟨d', er, rfl, -, h⟩, hk⟩
      exact ⟨⟨d', er, rfl, fun h0 => absurd ((h rfl).symm.trans h0) (by decide)⟩, hk⟩
theorem wfT_lab {t : Trk} (h : WfT t) : t.si.length ≤ t.lb.length := Nat.le_of_eq h.2.2.1
/-- What Write leaves behind. -/
def WDoc (ks : List Int) (con : List ByteArray) (d0 : Dc) (w0 : World) (a b : Value) (wx : World) : Prop := ∃ (db : Nat) (sl : ByteArray) (fr tw ti ct rt gv tk er : Int), a = .pointer (some ⟨db, 0, none⟩) ∧ b = .int .i64 er ∧ Keeps w0 wx ∧
  Blk wx db 54 #[.string sl, .int .i64 fr, .int .i64 tw, .int .i64 ti, .int .i64 ct, .int .i64 rt, .int .i64 gv, .int .i64 tk] ∧ (er = 0 → areContF con = true ∧ malF ks d0 = false ∧ (⟨sl, fr, tw, ti, ct, rt, gv, tk⟩ : Dc) = doc2 ks d0)
/-- No track of these travels in it with the label. -/
def NoTs (ti : Int) (xl lab : ByteArray) (ts : List Trk) : Prop := ∀ t ∈ ts, xl ∈ t.se → labR ti t.si t.lb ≠ lab
def NoSe (r xl lab : ByteArray) (se : List ByteArray) : Prop := ∀ s ∈ se, s = xl → r ≠ lab
/-- The law's outer loop between two rounds, and the inner one. -/
def LawJ (m : Nat) (ti : Int) (xl lab : ByteArray) (ts : List Trk) (w : World) (i : Value) (wx : World) : Prop := ∃ j : Nat, j ≤ m ∧ i = .int .i64 (j : Int) ∧ Keeps w wx ∧ NoTs ti xl lab (ts.take j)
def LawR (p : Nat) (rr xl lab : ByteArray) (se : List ByteArray) (w : World) (i : Value) (wx : World) : Prop := ∃ r : Nat, r ≤ p ∧ i = .int .i64 (r : Int) ∧ Keeps w wx ∧ NoSe rr xl lab (se.take r)
theorem RecIn.grownN {α : Type} {R : RowTy α} {w w' : World} {A : Option Addr} {l : List α} {g : Nat} (h : RecIn R w w.heap.size A l) (hg : w.grownBy w' (some g)) (hne : ∀ b off, A = some ⟨b, off, none⟩ → l ≠ [] → b ≠ g) : RecIn R w' w'.heap.size A l := fun j x hj => by
  obtain ⟨b, off, e, hb, hc⟩ := h j x hj
  have hn : b ≠ g := hne b off e (fun e2 => by rw [e2] at hj; simp at hj)
  exact ⟨b, off, e, Nat.lt_of_lt_of_le hb hg.size, fun t u hu => hg.cell (a := ⟨b, off + j * R.k + t, none⟩) (hc t u hu) (fun e2 => hn (Option.some.inj e2))⟩
theorem nrows_app {w1 wy w' : World} {A : Option Addr} {m c : Nat} {rows news : List Rw} (ho : OwnR rwR w1 wy (.slice A m c) rows) (hr : ∀ r ∈ rows, NRow wy r) (hn : ∀ r ∈ news, NRow wy r) (hg : wy.grownBy w' (Value.slice A m c).ownBlock) : ∀ r ∈ rows ++ news, NRow w' r := by
  have NK : ∀ r, NRow wy r → NRow w' r := fun r hr => hr.grown hg (fun g e => by obtain ⟨cs, hc⟩ := own_blk ho e; exact ⟨_, cs, hc, by decide⟩)
  intro r h
  rcases List.mem_append.1 h with h | h
  · exact NK r (hr r h)
  · exact NK r (hn r h)
theorem nrows_grown {w1 wy w' : World} {A : Option Addr} {m c : Nat} {rows news : List Rw} (ho : OwnR rwR w1 wy (.slice A m c) rows) (hn : ∀ r ∈ news, NRow wy r) (hg : wy.grownBy w' (Value.slice A m c).ownBlock) : ∀ r ∈ news, NRow w' r :=
  fun r h => (hn r h).grown hg (fun g e => by obtain ⟨cs, hc⟩ := own_blk ho e; exact ⟨_, cs, hc, by decide⟩)
/-- A list that can be read does not lie in a block without cells. -/
theorem rec_far {α : Type} {R : RowTy α} {P : Program} (ok : RowOk P R) {w : World} {B : Nat} {A : Option Addr} {l : List α} {g : Nat} {t : TypeId} (h : RecIn R w B A l) (hb : Blk w g t #[]) : ∀ b off, A = some ⟨b, off, none⟩ → l ≠ [] → b ≠ g := by
  intro b off e hl e2
  subst e2
  obtain ⟨x, hx⟩ := List.exists_mem_of_ne_nil _ hl
  obtain ⟨j, hj⟩ := List.mem_iff_getElem?.1 hx
  obtain ⟨b', off', e', _, hc⟩ := h j x hj
  rw [e] at e'
  cases e'
  obtain ⟨u, hu⟩ : ∃ u, (R.enc x)[0]? = some u := ⟨_, List.getElem?_eq_getElem (by rw [ok.len]; exact ok.pos)⟩
  have := hc 0 u hu
  rw [hb.cell] at this
  simp at this
theorem rec_lt {α : Type} {R : RowTy α} {w : World} {A : Option Addr} {l : List α} (h : RecIn R w w.heap.size A l) : ∀ b off, A = some ⟨b, off, none⟩ → l ≠ [] → b ≠ w.heap.size := by
  intro b off e hl e2
  obtain ⟨x, hx⟩ := List.exists_mem_of_ne_nil _ hl
  obtain ⟨j, hj⟩ := List.mem_iff_getElem?.1 hx
  obtain ⟨b', off', e', hlt, _⟩ := h j x hj
  rw [e] at e'
  cases e'
  omega
/-- The law's last call. -/
theorem coll_end {w0 W : World} (rows : List Rw) (A : Option Addr) (n c : Nat) (L : List (List Int)) (ho : OwnR rwR w0 W (.slice A n c) rows) (hn : ∀ r ∈ rows, NRow W r) (hm : rows.map Rw.l = L) (hL : L.length ≤ 1000000) (hR : ∀ r ∈ L, r.length ≤ 1000000)
    (hc : ∃ x ∈ L, ∃ y ∈ L, dgF x = dgF y ∧ x ≠ y) : Calls Tryz.prog 22 #[.slice A n c] W (BoolPost true W) := by
  have hl := own_lenR ho
  refine collide22 rows A n c W (ho.recs rwOk).1 (Lib.hid hl) (fun r hr => (hn r hr).recs) (fun r hr => hR _ (by rw [← hm]; exact List.mem_map.2 ⟨r, hr, rfl⟩)) ?_ (coll_of hm hc)
  have : rows.length = L.length := by rw [← hm, List.length_map]
  omega
end
end Go.Proofs.YthkmpegpmpdhaaaGreatDoor
