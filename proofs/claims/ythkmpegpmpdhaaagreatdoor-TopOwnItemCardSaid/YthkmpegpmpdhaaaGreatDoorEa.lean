/- Part of the proof of TopOwnItem. Conditions: as stated in each theorem. -/
import Derived.Test.YthkmpegpmpdhaaaGreatDoorO
import Derived.WalkMore
import Derived.Maps.OwnIn
import Derived.Deep.LoopGhost
import Derived.RangeFuncNested
import Derived.RangeFuncCalls
import Derived.RangeFuncLeaves
import Derived.RangeFuncWrites
import Derived.Shelf.Abstract
import Derived.Shelf.RegionOpen
import Derived.OwnWalkIn
import Derived.TacticsInMore
import Derived.LoopNIn
import Derived.LoopIn
import Derived.RangeFuncBound
import Derived.Test.YthkmpegpmpdhaaaGreatDoorProg
import Derived.WalkKit
import Derived.WalkSpells
import Derived.WalkLawsBesides
import Derived.Laws.EntriesVeiled
import Derived.ProofKit
import Derived.OpenShut
import Derived.Lib.Hide
import Derived.BigQuiet
import Derived.Deep.QuietTactic
import Derived.Deep.CutRange
import Derived.StillTailTactics
import Derived.Lib.SliceRun
import Derived.RangeFuncRecord
import Derived.Carry
import Derived.ChangeKeysEq
import Derived.Below
import Derived.Laws.OwnMore
import Derived.Deep.AppendLies
import Derived.Deep.Draws
import Derived.Laws.Rows
import Derived.Maps.AppendAt
import Derived.RegionTactic
import Derived.OwnWalk
import Derived.Deep.RegionHeld3
namespace Go.Proofs.YthkmpegpmpdhaaaGreatDoor
open Go.Shelf Go.ChangeShapes Go.WideShapes Go.ChangeAt Go.RowKit
set_option linter.unusedSimpArgs false
set_option linter.unusedVariables false
/-- How many manifests. -/
def mansF (rs : List Rec) : Nat := (rs.filter fun x => x.ki == 2).length
structure EvsBd (rs : List Rec) : Prop where
  len : rs.length ≤ 31
  con : ∀ x ∈ rs, x.con.length ≤ 45
  mans : mansF rs ≤ 12
theorem labsF_le (l : List Scn) (k : ByteArray) : ∀ (a : List Rec) (i : Nat), (labsF l a i k).length ≤ a.length
  | [], _ => by simp [labsF]
  | x :: a, i => by
    rw [labsF, List.length_append]
    have := labsF_le l k a (i + 1)
    have h : (if validF l x && x.lab == k then [(i : Int)] else []).length ≤ 1 := by split <;> simp
    simp only [List.length_cons]
    omega
theorem inF_le (i : Nat) (k : ByteArray) (cs : List ByteArray) : (inF i k cs).length ≤ cs.length := by
  unfold inF
  rw [List.length_map]
  exact List.length_filter_le _ _
theorem holdsF_le (l : List Scn) (k : ByteArray) : ∀ (a : List Rec) (i : Nat), (∀ x ∈ a, x.con.length ≤ 45) → (holdsF l a i k).length ≤ 45 * mansF a
  | [], _, _ => by simp [holdsF]
  | x :: a, i, h => by
    rw [holdsF, List.length_append]
    have h1 := holdsF_le l k a (i + 1) (fun y hy => h y (List.mem_cons_of_mem _ hy))
    have hx := h x (by simp)
    have h2 := inF_le i k x.con
    unfold mansF at *
    rw [List.filter_cons]
    by_cases hv : validF l x = true
    · rcases valid_kind hv with hc | hk
      · rw [if_pos hv, hc]
        have : (inF i k []).length = 0 := by simp [inF]
        split <;> (try simp only [List.length_cons]) <;> omega
      · rw [if_pos hv, if_pos (by simp [hk])]
        simp only [List.length_cons]
        omega
    · rw [if_neg hv]
      simp only [List.length_nil]
      split <;> (try simp only [List.length_cons]) <;> omega
def geo (b : Nat) : Nat → Nat
  | 0 => 1
  | f + 1 => 1 + b * geo b f
theorem outsF_len (l : List Scn) (rs : List Rec) (size : Nat) (ch zs : List Int) : (outsF l rs size ch zs).length ≤ zs.length := by
  unfold outsF
  rw [List.length_map]
  exact List.length_filter_le _ _
theorem hereF_len (l : List Scn) (rs : List Rec) (size : Nat) (lab : ByteArray) (ch : List Int) : (hereF l rs size lab ch).length ≤ rs.length := by
  unfold hereF
  split
  · exact Nat.le_trans (outsF_len _ _ _ _ _) (labsF_le _ _ _ _)
  · simp
theorem flatMap_len {α β : Type} (f : α → List β) (c : Nat) : ∀ (l : List α), (∀ x ∈ l, (f x).length ≤ c) → (l.flatMap f).length ≤ l.length * c
  | [], _ => by simp
  | x :: l, h => by
    rw [List.flatMap_cons, List.length_append, List.length_cons, Nat.succ_mul]
    have h1 := flatMap_len f c l (fun y hy => h y (List.mem_cons_of_mem _ hy))
    have h2 := h x (by simp)
    omega
theorem followF_len (l : List Scn) (rs : List Rec) (size : Nat) (h : EvsBd rs) : ∀ (f : Nat) (lab : ByteArray) (ch : List Int), (followF l rs size f lab ch).length ≤ 31 * geo 540 f
  | 0, lab, ch => by
    rw [followF]
    have := hereF_len l rs size lab ch
    have := h.len
    simp only [geo]
    omega
  | f + 1, lab, ch => by
    rw [followF, List.length_append]
    have h1 := hereF_len l rs size lab ch
    have h2 := h.len
    have h3 := flatMap_len (fun m : Int => if hasF ch m then [] else followF l rs size f (recOf rs m.toNat).lab (ch ++ [m])) (31 * geo 540 f) (holdsF l rs 0 lab) (fun m _ => by
      split
      · simp
      · exact followF_len l rs size h f _ _)
    have h4 := holdsF_le l lab rs 0 h.con
    have h5 := h.mans
    have h6 : (holdsF l rs 0 lab).length * (31 * geo 540 f) ≤ 540 * (31 * geo 540 f) := Nat.mul_le_mul_right _ (by omega)
    simp only [geo]
    have h7 : 540 * (31 * geo 540 f) = 31 * (540 * geo 540 f) := by rw [← Nat.mul_assoc, ← Nat.mul_assoc]
    rw [Nat.mul_add]
    omega
theorem followF_few (l : List Scn) (rs : List Rec) (size : Nat) (h : EvsBd rs) (lab : ByteArray) : (followF l rs size (min size 3) lab []).length ≤ 5000000000 := by
  have h1 := followF_len l rs size h (min size 3) lab []
  have h2 : geo 540 (min size 3) ≤ geo 540 3 := by
    have : ∀ f, f ≤ 3 → geo 540 f ≤ geo 540 3 := by decide
    exact this _ (Nat.min_le_right _ _)
  have h3 : geo 540 3 = 157756141 := by decide
  omega
theorem bothF_few (l : List Scn) (rs : List Rec) (h : EvsBd rs) (t : Bool) (k : ByteArray) : (bothF l rs t k).length ≤ 10000 := by
  unfold bothF
  have h1 := labsF_le l k rs 0
  have h2 := holdsF_le l k rs 0 h.con
  have h3 := h.len
  have h4 := h.mans
  split <;> omega
theorem putE_len : ∀ (es : List EvC) (S : List (ByteArray × EvC)), (es.foldl putE S).length ≤ es.length + S.length
  | [], S => by simp
  | x :: es, S => by
    rw [List.foldl_cons]
    have h1 := putE_len es (putE S x)
    have h2 := setG_len sEq (textF x) x S
    simp only [List.length_cons]
    unfold putE at *
    omega
theorem evsF_len (l : List Scn) (rs : List Rec) (size : Nat) (h : EvsBd rs) (lab : ByteArray) : (evsF l rs size lab).length ≤ 5000000000 := by
  unfold evsF sortE
  rw [List.length_mergeSort, List.length_map]
  have h1 := putE_len (followF l rs size (min size 3) lab []) []
  have h2 := followF_few l rs size h lab
  simp only [List.length_nil] at h1
  omega
/-- The events of all sizes up to k. -/
def accF (l : List Scn) (rs : List Rec) (lab : ByteArray) : Nat → List EvC
  | 0 => []
  | k + 1 => if (accF l rs lab k).length < 14 then accF l rs lab k ++ evsF l rs (k + 1) lab else accF l rs lab k
def eventsF (l : List Scn) (rs : List Rec) (lab : ByteArray) : List EvC := (accF l rs lab 4).take 14
theorem accF_full {l : List Scn} {rs : List Rec} {lab : ByteArray} {k : Nat} (h : 14 ≤ (accF l rs lab k).length) : ∀ j, accF l rs lab (k + j) = accF l rs lab k
  | 0 => rfl
  | j + 1 => by
    have ih := accF_full h j
    show (if (accF l rs lab (k + j)).length < 14 then _ else accF l rs lab (k + j)) = _
    rw [ih, if_neg (by omega)]
section
variable {P : Program} {α : Type} {R : RowTy α} (ok : RowOk P R)
include ok
/-- wpList_appR for rows that may be long. -/
theorem wpList_appLong {w0 w : World} {ops : Array Oper} {rest : List Oper} {o : Oper} {a : Act} {Q : Exit → Act → World → Prop} (hgd : o.guard = none) (s x : Operand)
    (ho : o.op = .call { callee := .builtin .append, args := #[s, x], argTypes := #[R.S, R.S] })
    (v : Value) (l : List α) (hs : a.eval s = v) (hown : OwnR R w0 w v l)
    (A : Option Addr) (m c : Nat) (l2 : List α) (hx : a.eval x = .slice A m c) (hr : RecIn R w w.heap.size A l2) (hm : Hid (m = l2.length)) (hle : Hid (l.length + l2.length ≤ 100000000000))
    (h : ∀ A' n' c' w', OwnR R w0 w' (.slice A' n' c') (l ++ l2) → w.grownBy w' v.ownBlock → ((Value.slice A' n' c').ownBlock = v.ownBlock ∨ (Value.slice A' n' c').ownBlock = some w.heap.size) → wpList P ops Q rest (a.put o.dst (.slice A' n' c')) w') : wpList P ops Q (o :: rest) a w := by
  obtain ⟨i0, z, hi0, hz0, hz1, hz2, hz3⟩ := ok.info
  have hle' := hle.out
  have hm' := hm.out
  subst hm'
  have hby : (l.length + l2.length) * R.by' ≤ 100000000000 * 1000 := Nat.mul_le_mul hle' ok.few
  refine wpList_append_any w hgd s x R.S ho w0.heap.size R.T i0 z R.k R.by' ok.und hi0 hz0 hz1 hz2 hz3 ok.pos v l.length (recCells R l) hs hown.1 w.heap.size A l2.length c (recCells R l2) hx (hr.reads ok) (recCells_oneCell ok l2) (by unfold maxLen; omega) (by omega) hown.2.size ?_
  intro v' w' h1 h2 h3
  obtain ⟨A', c', rfl⟩ := own_slice h1
  refine h A' _ c' w' ⟨?_, grown_keeps hown.2 h2 (fun k hk => (own_lt hown.1 hk).1)⟩ h2 h3
  rw [← List.length_append, ← recCells_append] at h1
  rw [← List.length_append]
  exact h1
end
theorem own_capR {α : Type} {R : RowTy α} {w0 w : World} {A : Option Addr} {n c : Nat} {l : List α} (h : OwnR R w0 w (.slice A n c) l) : n ≤ c := by
  rcases h.1.2 with ⟨e, _⟩ | ⟨g', cap', cur, e, hb, hg, hnc, _⟩
  · injection e with e1 e2 e3; omega
  · injection e with e1 e2 e3
    subst e2 e3
    exact hnc
/-- What Events answers. -/
def EvtP (S : List EvC) (w : World) (e : Ending) (w' : World) : Prop := ∃ A n c xs, e = .returned (.slice A n c) ∧ n = xs.length ∧ RecIn evR w' w'.heap.size A xs ∧ Keeps w w' ∧ xs.map Ev.say = S ∧ ∀ v ∈ xs, EvOk w' w'.heap.size v
/-- The event's needs do not lie in the row A. -/
def FarOf (A : Option Addr) (v : Ev) : Prop := v.nd ≠ [] → ∀ b o t b' o' t', v.A = some ⟨b, o, t⟩ → A = some ⟨b', o', t'⟩ → b ≠ b'
theorem EvOk.grown {w w' : World} {v : Ev} {row : Option Nat} (h : EvOk w w.heap.size v) (hg : w.grownBy w' row) (hne : v.nd ≠ [] → ∀ b o t, v.A = some ⟨b, o, t⟩ → some b ≠ row) : EvOk w' w'.heap.size v := by
  refine ⟨fun j x hj => ?_, h.len, h.bd⟩
  obtain ⟨b, off, e, hb, hc⟩ := h.nd j x hj
  have hn : v.nd ≠ [] := by intro e; rw [e] at hj; simp at hj
  refine ⟨b, off, e, Nat.lt_of_lt_of_le hb hg.size, fun t u hu => ?_⟩
  exact hg.cell (a := ⟨b, off + j * intR.k + t, none⟩) (hc t u hu) (hne hn _ _ _ e)
theorem ev_lt {w : World} {B : Nat} {v : Ev} (h : EvOk w B v) (hn : v.nd ≠ []) {b o : Nat} {t : Option Nat} (e : v.A = some ⟨b, o, t⟩) : b < B := by
  obtain ⟨x, hx⟩ : ∃ x, v.nd[0]? = some x := by
    cases hnd : v.nd with
    | nil => exact absurd hnd hn
    | cons x r => exact ⟨x, rfl⟩
  obtain ⟨b', off, e', hb, _⟩ := h.nd 0 x hx
  rw [e] at e'
  injection e' with e'
  injection e' with e1
  rw [e1]; exact hb
theorem SrcIs.more {l : List Scn} {rs : List Rec} {lA rA : Option Addr} {n lc m rc h N N' sb : Nat} {F : Bool → ByteArray → Option Gr} {W : World} (H : SrcIs l rs lA n lc rA m rc h F N W sb) (hN : N ≤ N') : SrcIs l rs lA n lc rA m rc h F N' W sb :=
  ⟨H.c0, H.c1, H.c2, H.c3, Nat.lt_of_lt_of_le H.lt hN, H.hn, H.hm, H.sc.more hN, H.rc.more hN, H.maps, fun t => Nat.lt_of_lt_of_le (H.mlt t) hN, fun t k g hg => (H.sl t k g hg).more hN, H.con⟩
/-- Between the rounds of Events' loop. -/
def EvR (l : List Scn) (rs : List Rec) (lab : ByteArray) (w : World) (a b : Value) (wr : World) : Prop :=
  ∃ (k : Nat) (A : Option Addr) (n c : Nat) (xs : List Ev), k ≤ 4 ∧ a = .slice A n c ∧ b = .int .i64 ((k : Int) + 1) ∧ OwnR evR w wr (.slice A n c) xs ∧ xs.map Ev.say = accF l rs lab k ∧ ∀ v ∈ xs, EvOk wr wr.heap.size v ∧ FarOf A v
theorem accF_len (l : List Scn) (rs : List Rec) (lab : ByteArray) (c : Nat) (h : ∀ k, (evsF l rs k lab).length ≤ c) : ∀ k, (accF l rs lab k).length ≤ k * c
  | 0 => by simp [accF]
  | k + 1 => by
    have h1 := accF_len l rs lab c h k
    rw [accF, Nat.succ_mul]
    split
    · rw [List.length_append]
      have := h (k + 1)
      omega
    · omega
set_option maxRecDepth 100000 in
set_option maxHeartbeats 4000000 in
theorem events8 (l : List Scn) (rs : List Rec) (lA rA : Option Addr) (n lc m rc : Nat) (lab : ByteArray) (w : World) (hl : RecIn scR w w.heap.size lA l) (hn : Hid (n = l.length)) (hr : RecIn rcR w w.heap.size rA rs) (hm : Hid (m = rs.length)) (hok : ∀ x ∈ rs, RecOk w w.heap.size x)
    (hnm : n ≤ 1000) (hb : EvsBd rs) (hoff : OffOk l) (ht : Tab w) :
    Calls Tryz.prog 8 #[.slice lA n lc, .slice rA m rc, .string lab] w (EvtP (eventsF l rs lab) w) := by
  have hm31 : m ≤ 31 := by have := hm.out; have := hb.len; omega
  have HR := Lib.hid (read24 l rs lA rA n lc m rc w hl hn hr hm hok hnm (by omega) (fun x hx => by have := hb.con x hx; omega))
  have HB := Lib.hid hb; have HOF := Lib.hid hoff; have HT := Lib.hid ht
  have hi : decide ((400 : Int) < (m : Int)) = false := by simp; omega
  have hi' : decide (400 < m) = false := by simp; omega
  clear hl hr hok hb hoff ht
  go_enter Tryz.func8, Tryz.ntmps8
  go_wp2_with (go_at_call 24; (with_reducible refine HR.out.mono ?_); rintro e w2 ⟨sb, h, F, rfl, hk2, hS2⟩)
  have K2 := Lib.hid hk2
  have S2 := Lib.hid hS2
  clear hk2 hS2
  go_loopw [8, 9] (fun a b wr => EvR l rs lab w2 a b wr) (fun _ b _ => 5 - (intOf b).toNat)
  case atStart => exact ⟨0, none, 0, 0, [], by omega, rfl, rfl, OwnR.nil w2, rfl, fun v hv => by simp at hv⟩
  case round =>
    obtain ⟨k, A, na, c, xs, hk, rfl, rfl, hO, hX, hV⟩ := hrel
    have HO := Lib.hid hO; have HX := Lib.hid hX; have HV := Lib.hid hV
    have hnx := Lib.hid (own_lenR hO)
    have hcap := Lib.hid (own_capR hO)
    clear hO hX hV
    by_cases hgo : k < 4 ∧ na < 14
    · obtain ⟨hk4, hn14⟩ := hgo
      have k1 : (k : Int) + 1 ≤ 4 := by omega
      have n1 : (na : Int) < 14 := by omega
      have HEV := Lib.hid (events25 l rs lA rA n lc m rc h wr.heap.size sb (k + 1) F lab wr ((S2.out.below HO.out.2).more HO.out.2.size) (Nat.le_refl _) (HT.out.keep (K2.out.trans HO.out.2)) (by omega) HOF.out (by omega) hm.out (bothF_few l rs HB.out) (Lib.hid (by have := followF_few l rs (k + 1) HB.out lab; omega)))
      rw [show (((k + 1 : Nat)) : Int) = (k : Int) + 1 by omega] at HEV
      have kw : IntKind.i64.wrap ((k : Int) + 1 + 1) = (k : Int) + 1 + 1 := wrap_in (by omega) (by omega)
      go_wp2_with (first | (go_at_call 25; (with_reducible refine HEV.out.mono ?_); rintro e w4 ⟨A4, n4, c4, ys, rfl, h4, e4, v4⟩; have O4 := Lib.hid h4; have E4 := Lib.hid e4; have V4 := Lib.hid v4; have N4 := Lib.hid (own_lenR h4); have OA := Lib.hid (HO.out.keep h4.2); have LE := Lib.hid (show xs.length + ys.length ≤ 100000000000 by have h1 := evsF_len l rs (k + 1) HB.out lab; have h2 := hnx.out; rw [← e4, List.length_map] at h1; omega); clear h4 e4 v4) | (at_builtin; refine wpList_appLong evOk (w0 := w2) rfl (.tmp 25) (.tmp 29) rfl _ xs rfl OA.out _ _ _ ys rfl (O4.out.recs evOk).1 N4 LE ?_; intro A5 n5 c5 w5 ho5 hg5 hb5; have O5 := Lib.hid ho5; have G5 := Lib.hid (show w4.grownBy w5 (Value.slice A na c).ownBlock from hg5); have B5 := Lib.hid (show (Value.slice A5 n5 c5).ownBlock = (Value.slice A na c).ownBlock ∨ (Value.slice A5 n5 c5).ownBlock = some w4.heap.size from hb5); clear ho5 hg5 hb5))
      have hgl : ∀ g, (Value.slice A na c).ownBlock = some g → g < wr.heap.size := fun g e => (own_lt HO.out.1 e).2
      have hA : ∀ b o t, A = some ⟨b, o, t⟩ → (Value.slice A na c).ownBlock = some b := fun b o t e => by rw [e]; rfl
      have hA5 : ∀ b o t, A5 = some ⟨b, o, t⟩ → (Value.slice A5 n5 c5).ownBlock = some b := fun b o t e => by rw [e]; rfl
      have hAx : ∀ g, (Value.slice A na c).ownBlock = some g → ∃ o t, A = some ⟨g, o, t⟩ := fun g e => by
        rcases A with _ | ⟨b, o, t⟩
        · cases e
        · injection e with e
          obtain rfl : b = g := e
          exact ⟨o, t, rfl⟩
      go_roundw
      case rel =>
        refine ⟨k + 1, A5, n5, c5, xs ++ ys, by omega, rfl, by go_num, O5.out, ?_, fun v hv => ?_⟩
        · rw [List.map_append, HX.out, E4.out, accF, if_pos (by rw [← HX.out, List.length_map, ← hnx.out]; exact hn14)]
        · rcases List.mem_append.1 hv with hv | hv
          · obtain ⟨h1, h2⟩ := HV.out v hv
            refine ⟨(h1.keep O4.out.2).grown G5.out (fun hnd b o t e e2 => ?_), fun hnd b o t b' o' t' e e5 => ?_⟩
            · obtain ⟨o2, t2, e3⟩ := hAx b e2.symm
              exact h2 hnd b o t b o2 t2 e e3 rfl
            · intro ebb
              subst ebb
              have hbl := ev_lt h1 hnd e
              have := O4.out.2.size
              rcases B5.out with hb | hb
              · rw [hA5 _ _ _ e5] at hb
                obtain ⟨o2, t2, e3⟩ := hAx b hb.symm
                exact h2 hnd b o t b o2 t2 e e3 rfl
              · rw [hA5 _ _ _ e5] at hb
                injection hb with hb
                omega
          · obtain ⟨h1, h2⟩ := V4.out v hv
            refine ⟨h1.grown G5.out (fun hnd b o t e e2 => ?_), fun hnd b o t b' o' t' e e5 => ?_⟩
            · have := hgl b e2.symm
              have := h2 b o t e
              omega
            · intro ebb
              subst ebb
              have hbl := ev_lt h1 hnd e
              have hbg := h2 b o t e
              rcases B5.out with hb | hb
              · rw [hA5 _ _ _ e5] at hb
                have := hgl b hb.symm
                omega
              · rw [hA5 _ _ _ e5] at hb
                injection hb with hb
                omega
      case measure => simp [intOf]; omega
    · have hacc : accF l rs lab 4 = accF l rs lab k := by
        by_cases hk4 : k = 4
        · rw [hk4]
        · have h14 : 14 ≤ (accF l rs lab k).length := by rw [← HX.out, List.length_map, ← hnx.out]; omega
          have := accF_full h14 (4 - k)
          rwa [show k + (4 - k) = 4 by omega] at this
      have HACC := Lib.hid hacc
      clear hacc
      have HQ := Lib.hid (show min na 14 = (xs.take 14).length by rw [List.length_take, ← hnx.out, Nat.min_comm])
      have hq : min (na : Int) 14 = ((min na 14 : Nat) : Int) := by omega
      have HQC := Lib.hid (show min na 14 ≤ c by have := hcap.out; omega)
      have hq0 : (0 : Int) ≤ ((min na 14 : Nat) : Int) := by omega
      have hqc : ((min na 14 : Nat) : Int) ≤ (c : Int) := by have := HQC.out; omega
      obtain ⟨q, hqq⟩ : ∃ q, min na 14 = q := ⟨_, rfl⟩
      rw [hqq] at hq hq0 hqc HQ HQC
      have h1q : 1 * q = q := Nat.one_mul q
      clear hqq
      have hpost : EvtP (eventsF l rs lab) w (.returned (.slice A q c)) wr := by
        refine ⟨_, q, c, xs.take 14, rfl, HQ.out, ?_, K2.out.trans HO.out.2, ?_, fun v hv => (HV.out v (List.mem_of_mem_take hv)).1⟩
        · intro j x hj
          refine (HO.out.recs evOk).1 j x ?_
          rw [List.getElem?_take] at hj
          split at hj
          · exact hj
          · cases hj
        · unfold eventsF
          rw [HACC.out, List.map_take, HX.out]
      have HP := Lib.hid hpost
      clear hpost
      by_cases hk4 : k = 4
      · subst hk4
        go_wp2_with fail
        go_ret
        exact HP.out
      · have k1 : ((k : Int) + 1 ≤ 4) := by omega
        have n1 : decide ((na : Int) < 14) = false := by simp; omega
        have n2 : decide (na < 14) = false := by simp; omega
        go_wp2_with fail
        go_ret
        exact HP.out
end Go.Proofs.YthkmpegpmpdhaaaGreatDoor
