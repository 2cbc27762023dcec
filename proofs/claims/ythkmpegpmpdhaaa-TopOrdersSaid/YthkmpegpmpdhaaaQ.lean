/- Part of the proofs of TopMoney and TopOrders. Conditions: as stated in each theorem. -/
import Derived.Test.YthkmpegpmpdhaaaZ
import Derived.Deep.CutRange
import Derived.StillTailTactics
import Derived.Lib.SliceRun
import Derived.RangeFuncRecord
import Derived.Carry
import Derived.ChangeKeysEq
import Derived.Test.YthkmpegpmpdhaaaRows
import Derived.WalkKit
import Derived.WalkSpells
import Derived.WalkLawsBesides
import Derived.Laws.EntriesVeiled
import Derived.ProofKit
import Derived.OpenShut
import Derived.Lib.Hide
import Derived.BigQuiet
import Derived.Deep.QuietTactic
import Derived.Below
import Derived.Laws.OwnMore
import Derived.Deep.AppendLies
import Derived.Deep.Draws
import Derived.Laws.Rows
import Derived.Maps.AppendAt
import Derived.RegionTactic
import Derived.OwnWalk
import Derived.Deep.RegionHeld3
namespace Go.Proofs.Ythkmpegpmpdhaaa
open Go.ChangeShapes Go.WideShapes Go.ChangeAt Go.RowKit
set_option linter.unusedSimpArgs false
set_option linter.unusedVariables false
/-- An event: its office, and when it can have happened. -/
structure Ev where
  o : Int
  lo : Int
  hi : Int
/-- The distance from an office to another one; -1 where there is no way. -/
def dist (d : List (List Int)) (i j : Int) : Int := at0 (d.getD i.toNat []) j.toNat
def isOff (d : List (List Int)) (i : Int) : Prop := 0 ≤ i ∧ i < (d.length : Int)
/-- Well-formed distances. -/
structure DistOk (d : List (List Int)) : Prop where
  sq : ∀ r ∈ d, r.length = d.length
  self : ∀ i, isOff d i → dist d i i = 0
  bnd : ∀ i j, isOff d i → isOff d j → -1 ≤ dist d i j ∧ dist d i j ≤ 1000000
  tri : ∀ i k j, isOff d i → isOff d k → isOff d j → 0 ≤ dist d i k → 0 ≤ dist d k j → 0 ≤ dist d i j ∧ dist d i j ≤ dist d i k + dist d k j
/-- A time at an office is long enough after a time at another one. -/
def Far (d : List (List Int)) (a : Int) (x : Int) (b : Int) (y : Int) : Prop := 0 ≤ dist d a b ∧ dist d a b ≤ y - x
theorem Far.trans {d : List (List Int)} (h : DistOk d) {a b c x y z : Int} (ha : isOff d a) (hb : isOff d b) (hc : isOff d c) (h1 : Far d a x b y) (h2 : Far d b y c z) : Far d a x c z := by
  have := h.tri a b c ha hb hc h1.1 h2.1
  have e1 := h1.2
  have e2 := h2.2
  exact ⟨this.1, by omega⟩
theorem Far.le {d : List (List Int)} {a b x y : Int} (h : Far d a x b y) : x ≤ y := by have := h.1; have := h.2; omega
/-- The office and the time of an event, by its number. -/
def offA (es : List Ev) (i : Nat) : Int := (es.map (·.o)).getD i 0
def FarI (d : List (List Int)) (es : List Ev) (ts : List Int) (i j : Nat) : Prop := Far d (offA es i) (at0 ts i) (offA es j) (at0 ts j)
/-- A list in which each is related to the next one. -/
def Chain {α : Type} (R : α → α → Prop) : List α → Prop
  | [] => True
  | [_] => True
  | a :: b :: l => R a b ∧ Chain R (b :: l)
theorem Chain.pairs {α : Type} {R : α → α → Prop} {S : α → Prop} (ht : ∀ a b c, S a → S b → S c → R a b → R b c → R a c) : ∀ {l : List α}, (∀ x ∈ l, S x) → Chain R l → l.Pairwise R
  | [], _, _ => List.Pairwise.nil
  | [a], _, _ => List.pairwise_singleton R a
  | a :: b :: l, hS, h => by
    have ih := Chain.pairs ht (l := b :: l) (fun x hx => hS x (by simp [hx])) h.2
    refine List.Pairwise.cons (fun c hc => ?_) ih
    rcases List.mem_cons.1 hc with rfl | hc
    · exact h.1
    · exact ht a b c (hS a (by simp)) (hS b (by simp)) (hS c (by simp [hc])) h.1 ((List.pairwise_cons.1 ih).1 c hc)
/-- What it is that times of events are possible (no legs). -/
structure HoldsP (d : List (List Int)) (es : List Ev) (ts : List Int) : Prop where
  len : ts.length = es.length
  win : ∀ i e, es[i]? = some e → (e.lo ≤ at0 ts i ∧ 0 ≤ at0 ts i) ∧ at0 ts i ≤ e.hi ∧ at0 ts i ≤ 1000000
  far : ∀ i j, i < j → j < es.length → FarI d es ts i j ∨ FarI d es ts j i
/-- Times in the windows, and an order of all events in which each is long enough before the next one. -/
theorem holds_of_chain {d : List (List Int)} {es : List Ev} {ts : List Int} {s : List Nat} (hd : DistOk d) (ho : ∀ e ∈ es, isOff d e.o) (hl : ts.length = es.length)
    (hw : ∀ i e, es[i]? = some e → (e.lo ≤ at0 ts i ∧ 0 ≤ at0 ts i) ∧ at0 ts i ≤ e.hi ∧ at0 ts i ≤ 1000000)
    (hs : ∀ i, i < es.length → i ∈ s) (hs' : ∀ i ∈ s, i < es.length) (hc : Chain (FarI d es ts) s) : HoldsP d es ts := by
  have hoff : ∀ i, i < es.length → isOff d (offA es i) := fun i hi => by
    have e : (es.map (·.o)).getD i 0 = es[i].o := by simp [List.getD_eq_getElem?_getD, hi]
    unfold offA
    rw [e]; exact ho _ (List.getElem_mem hi)
  have hp := Chain.pairs (R := FarI d es ts) (S := fun i => i < es.length) (fun a b c ha hb hc h1 h2 => Far.trans hd (hoff a ha) (hoff b hb) (hoff c hc) h1 h2) hs' hc
  refine ⟨hl, hw, fun i j hij hj => ?_⟩
  obtain ⟨p, hpi⟩ := List.getElem?_of_mem (hs i (by omega))
  obtain ⟨q, hqj⟩ := List.getElem?_of_mem (hs j hj)
  have hpl := (List.getElem?_eq_some_iff.1 hpi).1
  have hql := (List.getElem?_eq_some_iff.1 hqj).1
  have e1 := (List.getElem?_eq_some_iff.1 hpi).2
  have e2 := (List.getElem?_eq_some_iff.1 hqj).2
  rcases Nat.lt_trichotomy p q with h | h | h
  · left
    have := List.pairwise_iff_getElem.1 hp p q hpl hql h
    rwa [e1, e2] at this
  · subst h
    rw [hpi] at hqj
    injection hqj with hqj
    omega
  · right
    have := List.pairwise_iff_getElem.1 hp q p hql hpl h
    rwa [e1, e2] at this
/-- The first and the last minute of an event, apart from those at which nothing happens. -/
def clampLo (e : Ev) : Int := min (max e.lo 0) 1000001
def clampHi (e : Ev) : Int := max (min e.hi 1000000) (-1)
theorem clamp_in {e : Ev} {t : Int} (h0 : 0 ≤ t) (h1 : clampLo e ≤ t) (h2 : t ≤ clampHi e) : (e.lo ≤ t ∧ 0 ≤ t) ∧ t ≤ e.hi ∧ t ≤ 1000000 := by
  unfold clampLo clampHi at *; omega
theorem clamp_of {e : Ev} {t : Int} (h : (e.lo ≤ t ∧ 0 ≤ t) ∧ t ≤ e.hi ∧ t ≤ 1000000) : clampLo e ≤ t ∧ t ≤ clampHi e := by
  unfold clampLo clampHi; omega
/-- The first minute at which an event can happen after another one; -1 if it cannot any more. -/
def beginF (d : List (List Int)) (now time : Int) (e : Ev) : Int :=
  let far := if now = -1 then 0 else dist d now e.o
  if far = -1 ∨ clampHi e < time + far then -1 else max (clampLo e) (time + far)
/-- One event after the other, each at its first minute. -/
def SimOk (d : List (List Int)) (es : List Ev) (t : Nat → Int) : Int → Int → List Nat → Prop
  | _, _, [] => True
  | now, time, u :: s => ∃ e, es[u]? = some e ∧ beginF d now time e = t u ∧ 0 ≤ t u ∧ SimOk d es t e.o (t u) s
theorem beginF_ok {d : List (List Int)} {now time : Int} {e : Ev} (hw : clampLo e ≤ clampHi e) (h : 0 ≤ beginF d now time e) :
    clampLo e ≤ beginF d now time e ∧ beginF d now time e ≤ clampHi e ∧ (now ≠ -1 → dist d now e.o ≠ -1 ∧ time + dist d now e.o ≤ beginF d now time e) ∧ (now = -1 → time ≤ beginF d now time e) := by
  unfold beginF at *
  simp only at *
  by_cases hn : now = -1
  · simp only [hn, if_true] at *
    split at h
    · omega
    · rename_i hc
      rw [if_neg hc]
      refine ⟨by omega, by omega, fun x => absurd rfl x, fun _ => by omega⟩
  · simp only [hn, if_false] at *
    split at h
    · omega
    · rename_i hc
      rw [if_neg hc]
      refine ⟨by omega, by omega, fun _ => ⟨by omega, by omega⟩, fun x => absurd x (by simp)⟩
theorem sim_win {d : List (List Int)} {es : List Ev} {t : Nat → Int} (hw : ∀ e ∈ es, clampLo e ≤ clampHi e) : ∀ {s : List Nat} {now time : Int}, SimOk d es t now time s → ∀ u ∈ s, ∃ e, es[u]? = some e ∧ (e.lo ≤ t u ∧ 0 ≤ t u) ∧ t u ≤ e.hi ∧ t u ≤ 1000000
  | [], _, _, _, u, hu => by simp at hu
  | v :: s, now, time, h, u, hu => by
    obtain ⟨e, he, hb, h0, hr⟩ := h
    rcases List.mem_cons.1 hu with rfl | hu
    · have := beginF_ok (hw e (List.mem_of_getElem? he)) (by rw [hb]; exact h0)
      rw [hb] at this
      exact ⟨e, he, clamp_in h0 this.1 this.2.1⟩
    · exact sim_win hw hr u hu
theorem offA_of {es : List Ev} {u : Nat} {e : Ev} (h : es[u]? = some e) : offA es u = e.o := by
  simp [offA, List.getD_eq_getElem?_getD, h]
theorem sim_chain {d : List (List Int)} {es : List Ev} {ts : List Int} (hd : DistOk d) (ho : ∀ e ∈ es, isOff d e.o) (hw : ∀ e ∈ es, clampLo e ≤ clampHi e) :
    ∀ {s : List Nat} {now time : Int}, SimOk d es (at0 ts) now time s → Chain (FarI d es ts) s
  | [], _, _, _ => trivial
  | [_], _, _, _ => trivial
  | u :: v :: s, now, time, h => by
    obtain ⟨e, he, hb, h0, f, hf, hb2, h02, hr⟩ := h
    have hoe := ho e (List.mem_of_getElem? he)
    have hof := ho f (List.mem_of_getElem? hf)
    have h2 := beginF_ok (hw f (List.mem_of_getElem? hf)) (by rw [hb2]; exact h02)
    rw [hb2] at h2
    have h3 := h2.2.2.1 (by have := hoe.1; omega)
    have h4 := (hd.bnd e.o f.o hoe hof).1
    refine ⟨?_, sim_chain hd ho hw (s := v :: s) (now := e.o) (time := at0 ts u) ⟨f, hf, hb2, h02, hr⟩⟩
    unfold FarI
    rw [offA_of he, offA_of hf]
    exact ⟨by omega, by omega⟩
/-- Times found by going through all events, one after the other, are possible. -/
theorem sim_holds {d : List (List Int)} {es : List Ev} {ts : List Int} {s : List Nat} (hd : DistOk d) (ho : ∀ e ∈ es, isOff d e.o) (hw : ∀ e ∈ es, clampLo e ≤ clampHi e) (hl : ts.length = es.length)
    (hs : ∀ i, i < es.length → i ∈ s) (h : SimOk d es (at0 ts) (-1) 0 s) : HoldsP d es ts :=
  holds_of_chain hd ho hl (fun i e he => by
      obtain ⟨e', he', hx⟩ := sim_win hw h i (hs i (List.getElem?_eq_some_iff.1 he).1)
      rw [he] at he'; cases he'; exact hx) hs
    (fun i hi => by obtain ⟨e, he, _⟩ := sim_win hw h i hi; exact (List.getElem?_eq_some_iff.1 he).1) (sim_chain hd ho hw h)
theorem nodup_full : ∀ (n : Nat) (l : List Nat), l.Nodup → (∀ x ∈ l, x < n) → l.length ≤ n ∧ (l.length = n → ∀ i, i < n → i ∈ l)
  | 0, l, _, h => by
    cases l with
    | nil => simp
    | cons x l => exact absurd (h x (by simp)) (by omega)
  | n + 1, l, hn, h => by
    by_cases hm : n ∈ l
    · have h1 := nodup_full n (l.erase n) (hn.erase n) (fun x hx => by
        have h2 := (List.Nodup.mem_erase_iff hn).1 hx
        have := h x h2.2
        omega)
      rw [List.length_erase_of_mem hm] at h1
      have hp : 0 < l.length := List.length_pos_of_mem hm
      refine ⟨by omega, fun e i hi => ?_⟩
      by_cases hin : i = n
      · rw [hin]; exact hm
      · exact List.mem_of_mem_erase (h1.2 (by omega) i (by omega))
    · have h1 := nodup_full n l hn (fun x hx => by
        have := h x hx
        have : x ≠ n := fun e => hm (e ▸ hx)
        omega)
      exact ⟨by omega, fun e => by omega⟩
/-- A relation that is total and transitive on a list has a least member. -/
theorem least_in {R : Nat → Nat → Prop} {S : Nat → Prop} (ht : ∀ a b c, S a → S b → S c → R a b → R b c → R a c) (hr : ∀ a, S a → R a a) (htot : ∀ a b, S a → S b → R a b ∨ R b a) :
    ∀ (l : List Nat), (∀ x ∈ l, S x) → l ≠ [] → ∃ i ∈ l, ∀ k ∈ l, R i k
  | [], _, h => absurd rfl h
  | [a], hS, _ => ⟨a, by simp, fun k hk => by simp at hk; subst hk; exact hr k (hS k (by simp))⟩
  | a :: b :: l, hS, _ => by
    obtain ⟨i, hi, hk⟩ := least_in ht hr htot (b :: l) (fun x hx => hS x (by simp [hx])) (by simp)
    have hSi := hS i (by simp [hi])
    have hSa := hS a (by simp)
    rcases htot a i hSa hSi with h | h
    · refine ⟨a, by simp, fun k hk' => ?_⟩
      rcases List.mem_cons.1 hk' with rfl | hk'
      · exact hr _ hSa
      · exact ht a i k hSa hSi (hS k (by simp [hk'])) h (hk k hk')
    · refine ⟨i, by simp [hi], fun k hk' => ?_⟩
      rcases List.mem_cons.1 hk' with rfl | hk'
      · exact h
      · exact hk k hk'
theorem offA_off {d : List (List Int)} {es : List Ev} (ho : ∀ e ∈ es, isOff d e.o) {i : Nat} (hi : i < es.length) : isOff d (offA es i) := by
  rw [offA_of (List.getElem?_eq_getElem hi)]; exact ho _ (List.getElem_mem hi)
theorem far_trans {d : List (List Int)} {es : List Ev} {ts : List Int} (hd : DistOk d) (ho : ∀ e ∈ es, isOff d e.o) (a b c : Nat) (ha : a < es.length) (hb : b < es.length) (hc : c < es.length) (h1 : FarI d es ts a b) (h2 : FarI d es ts b c) : FarI d es ts a c :=
  Far.trans hd (offA_off ho ha) (offA_off ho hb) (offA_off ho hc) h1 h2
theorem far_self {d : List (List Int)} {es : List Ev} {ts : List Int} (hd : DistOk d) (ho : ∀ e ∈ es, isOff d e.o) (a : Nat) (ha : a < es.length) : FarI d es ts a a := by
  have := hd.self _ (offA_off ho ha)
  exact ⟨by omega, by omega⟩
theorem far_total {d : List (List Int)} {es : List Ev} {ts : List Int} (hd : DistOk d) (ho : ∀ e ∈ es, isOff d e.o) (h : HoldsP d es ts) (a b : Nat) (ha : a < es.length) (hb : b < es.length) : FarI d es ts a b ∨ FarI d es ts b a := by
  rcases Nat.lt_trichotomy a b with h1 | h1 | h1
  · exact h.far a b h1 hb
  · subst h1; exact .inl (far_self hd ho a ha)
  · exact (h.far b a h1 ha).symm
/-- The test of w21Sequence: no time is less, and no equal one is at another office than near. -/
theorem first_far {d : List (List Int)} {es : List Ev} {ts : List Int} (hd : DistOk d) (ho : ∀ e ∈ es, isOff d e.o) (h : HoldsP d es ts) {i k : Nat} (hi : i < es.length) (hk : k < es.length) :
    FarI d es ts i k ↔ ¬ (at0 ts k < at0 ts i ∨ at0 ts k = at0 ts i ∧ dist d (offA es i) (offA es k) ≠ 0) := by
  constructor
  · rintro ⟨h1, h2⟩ h3
    rcases h3 with h3 | ⟨h3, h4⟩
    · omega
    · exact h4 (by omega)
  · intro h1
    rcases far_total hd ho h i k hi hk with h2 | h2
    · exact h2
    · have h3 := h2.1
      have h4 := h2.2
      by_cases he : at0 ts k = at0 ts i
      · have h5 : dist d (offA es i) (offA es k) = 0 := by
          rcases Int.decEq (dist d (offA es i) (offA es k)) 0 with h5 | h5
          · exact absurd (.inr ⟨he, h5⟩) h1
          · exact h5
        exact ⟨by omega, by omega⟩
      · exact absurd (.inl (by omega)) h1
/-- The sequence so far. -/
structure SeqI (d : List (List Int)) (es : List Ev) (ts : List Int) (out : List Nat) : Prop where
  nd : out.Nodup
  lt : ∀ i ∈ out, i < es.length
  pw : out.Pairwise (FarI d es ts)
  rest : ∀ a ∈ out, ∀ k, k < es.length → k ∉ out → FarI d es ts a k
theorem SeqI.nil (d : List (List Int)) (es : List Ev) (ts : List Int) : SeqI d es ts [] := ⟨by simp, by simp, by simp, by simp⟩
theorem SeqI.step {d : List (List Int)} {es : List Ev} {ts : List Int} {out : List Nat} (h : SeqI d es ts out) {i : Nat} (hi : i < es.length) (hn : i ∉ out) (hf : ∀ k, k < es.length → k ∉ out → FarI d es ts i k) : SeqI d es ts (out ++ [i]) := by
  refine ⟨?_, ?_, ?_, ?_⟩
  · rw [List.nodup_append]
    exact ⟨h.nd, by simp, fun a ha b hb e => by simp at hb; subst hb; subst e; exact hn ha⟩
  · intro a ha
    rcases List.mem_append.1 ha with ha | ha
    · exact h.lt a ha
    · simp at ha; subst ha; exact hi
  · rw [List.pairwise_append]
    exact ⟨h.pw, by simp, fun a ha b hb => by simp at hb; subst hb; exact h.rest a ha b hi hn⟩
  · intro a ha k hk hkn
    simp only [List.mem_append, List.mem_singleton, not_or] at hkn
    rcases List.mem_append.1 ha with ha | ha
    · exact h.rest a ha k hk hkn.1
    · simp at ha; subst ha; exact hf k hk hkn.1
/-- While events are left, one of them is first. -/
theorem SeqI.has {d : List (List Int)} {es : List Ev} {ts : List Int} {out : List Nat} (hd : DistOk d) (ho : ∀ e ∈ es, isOff d e.o) (hh : HoldsP d es ts) (h : SeqI d es ts out) (hl : out.length < es.length) :
    ∃ i, i < es.length ∧ i ∉ out ∧ ∀ k, k < es.length → k ∉ out → FarI d es ts i k := by
  have hne : (List.range es.length).filter (fun k => decide (k ∉ out)) ≠ [] := by
    intro e
    have hall : ∀ k, k < es.length → k ∈ out := fun k hk => by
      by_cases hx : k ∈ out
      · exact hx
      · have : k ∈ (List.range es.length).filter (fun k => decide (k ∉ out)) := by simp [hk, hx]
        rw [e] at this; simp at this
    have h1 := (nodup_full out.length (List.range es.length) List.nodup_range (fun x hx => ?_)).1
    · simp at h1; omega
    · exact absurd hl (by
        have hsub := List.Nodup.length_le_of_subset (l₁ := List.range es.length) (l₂ := out) List.nodup_range (fun k hk => hall k (by simpa using hk))
        simp at hsub; omega)
  obtain ⟨i, hi, hk⟩ := least_in (R := FarI d es ts) (S := fun i => i < es.length) (far_trans hd ho) (far_self hd ho) (far_total hd ho hh) _ (fun x hx => by simp at hx; exact hx.1) hne
  simp at hi hk
  exact ⟨i, hi.1, hi.2, fun k h1 h2 => hk k h1 h2⟩
end Go.Proofs.Ythkmpegpmpdhaaa
