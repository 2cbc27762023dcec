/- Part of the proofs of TopMoney and TopOrders. Conditions: as stated in each theorem. -/
import Derived.Test.YthkmpegpmpdhaaaQ
import Derived.Deep.CutRange
import Derived.StillTailTactics
import Derived.Lib.SliceRun
import Derived.RangeFuncRecord
import Derived.Carry
import Derived.ChangeKeysEq
import Derived.Test.YthkmpegpmpdhaaaRows
import Derived.WalkKit
import Derived.WalkSpells
import Derived.WalkLawsBesides
import Derived.Laws.EntriesVeiled
import Derived.ProofKit
import Derived.OpenShut
import Derived.Lib.Hide
import Derived.BigQuiet
import Derived.Deep.QuietTactic
import Derived.Below
import Derived.Laws.OwnMore
import Derived.Deep.AppendLies
import Derived.Deep.Draws
import Derived.Laws.Rows
import Derived.Maps.AppendAt
import Derived.RegionTactic
import Derived.OwnWalk
import Derived.Deep.RegionHeld3
namespace Go.Proofs.Ythkmpegpmpdhaaa
open Go.ChangeShapes Go.WideShapes Go.ChangeAt Go.RowKit
set_option linter.unusedSimpArgs false
set_option linter.unusedVariables false
/-- A unit: the number of its event, and the event. -/
abbrev Un := Nat × Ev
def evU (us : List Un) (k : Nat) : Ev := (us.getD k (0, ⟨0, 0, 0⟩)).2
def ixU (us : List Un) (k : Nat) : Nat := (us.getD k (0, ⟨0, 0, 0⟩)).1
theorem evU_of {us : List Un} {k i : Nat} {e : Ev} (h : us[k]? = some (i, e)) : evU us k = e ∧ ixU us k = i := by
  simp [evU, ixU, List.getD_eq_getElem?_getD, h]
/-- Sets of units, a bit for each. -/
def hasB (m u : Nat) : Bool := m &&& 2 ^ u != 0
def andn (a b : Nat) : Nat := a ^^^ (a &&& b)
theorem hasB_test (m u : Nat) : hasB m u = m.testBit u := by
  unfold hasB
  cases h : m.testBit u
  · have e : m &&& 2 ^ u = 0 := Nat.eq_of_testBit_eq fun i => by
      rw [Nat.testBit_and, Nat.testBit_two_pow, Nat.zero_testBit]
      by_cases e : u = i
      · subst e; simp [h]
      · simp [e]
    rw [e]; rfl
  · have e : m &&& 2 ^ u ≠ 0 := fun e => by
      have h2 : (m &&& 2 ^ u).testBit u = false := by rw [e, Nat.zero_testBit]
      rw [Nat.testBit_and, h] at h2
      simp at h2
    simpa using e
theorem hasB_zero (u : Nat) : hasB 0 u = false := by simp [hasB_test]
theorem hasB_or (m u k : Nat) : hasB (m ||| 2 ^ u) k = (hasB m k || decide (u = k)) := by
  simp only [hasB_test, Nat.testBit_or, Nat.testBit_two_pow]
theorem andn_or {m u : Nat} (h : hasB m u = false) : andn (m ||| 2 ^ u) (2 ^ u) = m := by
  rw [hasB_test] at h
  refine Nat.eq_of_testBit_eq fun i => ?_
  simp only [andn, Nat.testBit_xor, Nat.testBit_and, Nat.testBit_or, Nat.testBit_two_pow]
  by_cases e : u = i
  · subst e; simp [h]
  · simp [e]
/-- How many of the first units are in a set. -/
def cntB (n m : Nat) : Nat := ((List.range n).filter (hasB m)).length
theorem cntB_zero (n : Nat) : cntB n 0 = 0 := by simp [cntB, hasB_zero]
theorem cntB_or : ∀ (n m u : Nat), hasB m u = false → cntB n (m ||| 2 ^ u) = cntB n m + (if u < n then 1 else 0)
  | 0, m, u, h => by simp [cntB]
  | n + 1, m, u, h => by
    have ih := cntB_or n m u h
    unfold cntB at *
    rw [List.range_succ, List.filter_append, List.filter_append, List.length_append, List.length_append, ih]
    by_cases e : u = n
    · subst e
      simp [hasB_or, h]
    · have e2 : hasB (m ||| 2 ^ u) n = hasB m n := by simp [hasB_or, e]
      have e3 : (u < n + 1) ↔ u < n := by omega
      simp only [List.filter_cons, e2, List.filter_nil, e3]
      omega
/-- The state after a unit: the set, the office, and the time. -/
abbrev St := Nat × Int × Int
def st0 : St := (0, -1, 0)
def stepU (d : List (List Int)) (us : List Un) (s : St) (u : Nat) : St := (s.1 ||| 2 ^ u, (evU us u).o, beginF d s.2.1 s.2.2 (evU us u))
def pathF (d : List (List Int)) (us : List Un) (s : List Nat) : St := s.foldl (stepU d us) st0
theorem pathF_snoc (d : List (List Int)) (us : List Un) (s : List Nat) (u : Nat) : pathF d us (s ++ [u]) = stepU d us (pathF d us s) u := by simp [pathF, List.foldl_append]
/-- A unit can be next. -/
def okU (d : List (List Int)) (us : List Un) (s : St) (u : Nat) : Prop := u < us.length ∧ hasB s.1 u = false ∧ 0 ≤ beginF d s.2.1 s.2.2 (evU us u)
def okP (d : List (List Int)) (us : List Un) (s : List Nat) : Prop := ∀ k u, s[k]? = some u → okU d us (pathF d us (s.take k)) u
theorem okP_nil (d : List (List Int)) (us : List Un) : okP d us [] := fun k u h => by simp at h
theorem okP_snoc {d : List (List Int)} {us : List Un} {s : List Nat} {u : Nat} (h : okP d us s) (hu : okU d us (pathF d us s) u) : okP d us (s ++ [u]) := by
  intro k v hk
  rcases Nat.lt_trichotomy k s.length with h1 | h1 | h1
  · rw [List.getElem?_append_left h1] at hk
    rw [List.take_append_of_le_length (by omega)]
    exact h k v hk
  · subst h1
    simp at hk
    subst hk
    rw [List.take_left]
    exact hu
  · rw [List.getElem?_eq_none (by simp; omega)] at hk
    cases hk
theorem okP_pre {d : List (List Int)} {us : List Un} {s t : List Nat} (h : okP d us (s ++ t)) : okP d us s := by
  intro k v hk
  have hlt := (List.getElem?_eq_some_iff.1 hk).1
  have := h k v (by rw [List.getElem?_append_left hlt]; exact hk)
  rwa [List.take_append_of_le_length (by omega)] at this
theorem okP_last {d : List (List Int)} {us : List Un} {s : List Nat} {u : Nat} (h : okP d us (s ++ [u])) : okU d us (pathF d us s) u := by
  have := h s.length u (by simp)
  rwa [List.take_left] at this
theorem snoc_of {α : Type} {n : Nat} {s : List α} (h : s.length = n + 1) : ∃ t u, s = t ++ [u] := by
  have hne : s ≠ [] := fun e => by rw [e] at h; simp at h
  exact ⟨s.dropLast, s.getLast hne, (List.dropLast_concat_getLast hne).symm⟩
/-- The set of a path holds its units. -/
theorem path_has {d : List (List Int)} {us : List Un} : ∀ (n : Nat) (s : List Nat), s.length = n → ∀ k, hasB (pathF d us s).1 k = decide (k ∈ s)
  | 0, s, h, k => by
    have : s = [] := List.eq_nil_of_length_eq_zero h
    subst this
    simp [pathF, st0, hasB_zero]
  | n + 1, s, h, k => by
    obtain ⟨t, u, rfl⟩ : ∃ t u, s = t ++ [u] := snoc_of h
    have ih := path_has (d := d) (us := us) n t (by simpa using h) k
    rw [pathF_snoc]
    simp only [stepU, hasB_or, ih, List.mem_append, List.mem_singleton]
    by_cases e : u = k
    · subst e; simp
    · have e2 : ¬ k = u := fun x => e x.symm
      simp [e, e2]
theorem okP_nodup {d : List (List Int)} {us : List Un} : ∀ (n : Nat) (s : List Nat), s.length = n → okP d us s → s.Nodup ∧ ∀ u ∈ s, u < us.length
  | 0, s, h, _ => by
    have : s = [] := List.eq_nil_of_length_eq_zero h
    subst this
    simp
  | n + 1, s, h, hp => by
    obtain ⟨t, u, rfl⟩ : ∃ t u, s = t ++ [u] := snoc_of h
    have ih := okP_nodup n t (by simpa using h) (okP_pre hp)
    have hl := okP_last hp
    have hn : u ∉ t := by
      have := hl.2.1
      rw [path_has t.length t rfl] at this
      simpa using this
    refine ⟨?_, fun v hv => ?_⟩
    · rw [List.nodup_append]
      exact ⟨ih.1, by simp, fun a ha b hb e => by simp at hb; subst hb; subst e; exact hn ha⟩
    · rcases List.mem_append.1 hv with hv | hv
      · exact ih.2 v hv
      · simp at hv; subst hv; exact hl.1
/-- What is left of the events' times when a path is written down. -/
def timesF (d : List (List Int)) (us : List Un) (m : Nat) (s : List Nat) : List Int :=
  (s.foldl (fun (p : St × List Int) u => (stepU d us p.1 u, p.2.set (ixU us u) (beginF d p.1.2.1 p.1.2.2 (evU us u)))) (st0, List.replicate m 0)).2
theorem times_st (d : List (List Int)) (us : List Un) (m : Nat) : ∀ (s : List Nat), (s.foldl (fun (p : St × List Int) u => (stepU d us p.1 u, p.2.set (ixU us u) (beginF d p.1.2.1 p.1.2.2 (evU us u)))) (st0, List.replicate m 0)).1 = pathF d us s := by
  suffices h : ∀ (s : List Nat) (p : St × List Int), (s.foldl (fun (p : St × List Int) u => (stepU d us p.1 u, p.2.set (ixU us u) (beginF d p.1.2.1 p.1.2.2 (evU us u)))) p).1 = s.foldl (stepU d us) p.1 from fun s => h s _
  intro s
  induction s with
  | nil => intro p; rfl
  | cons u s ih => intro p; simp only [List.foldl_cons, ih]
theorem times_snoc (d : List (List Int)) (us : List Un) (m : Nat) (s : List Nat) (u : Nat) : timesF d us m (s ++ [u]) = (timesF d us m s).set (ixU us u) (pathF d us (s ++ [u])).2.2 := by
  unfold timesF
  rw [List.foldl_append]
  simp only [List.foldl_cons, List.foldl_nil, times_st, pathF_snoc]
  rfl
theorem times_nil (d : List (List Int)) (us : List Un) (m : Nat) : timesF d us m [] = List.replicate m 0 := rfl
theorem times_len (d : List (List Int)) (us : List Un) (m : Nat) : ∀ (n : Nat) (s : List Nat), s.length = n → (timesF d us m s).length = m
  | 0, s, h => by
    have : s = [] := List.eq_nil_of_length_eq_zero h
    subst this
    simp [timesF]
  | n + 1, s, h => by
    obtain ⟨t, u, rfl⟩ : ∃ t u, s = t ++ [u] := snoc_of h
    rw [times_snoc, List.length_set]; exact times_len d us m n t (by simpa using h)
/-- The units are the events, in some order. -/
structure UnitsOk (es : List Ev) (us : List Un) : Prop where
  len : us.length = es.length
  ev : ∀ (k i : Nat) (e : Ev), us[k]? = some (i, e) → es[i]? = some e
  nd : (us.map (·.1)).Nodup
theorem UnitsOk.perm {es : List Ev} {us vs : List Un} (h : UnitsOk es us) (hp : vs.Perm us) : UnitsOk es vs where
  len := hp.length_eq.trans h.len
  ev := fun k i e hk => by
    obtain ⟨j, hj⟩ := List.getElem?_of_mem (hp.mem_iff.1 (List.mem_of_getElem? hk))
    exact h.ev j i e hj
  nd := (hp.map (·.1)).nodup_iff.2 h.nd
theorem UnitsOk.at_ {es : List Ev} {us : List Un} (h : UnitsOk es us) {k : Nat} (hk : k < us.length) : es[ixU us k]? = some (evU us k) ∧ us[k]? = some (ixU us k, evU us k) := by
  have e := List.getElem?_eq_getElem hk
  have e2 : us[k] = (us[k].1, us[k].2) := rfl
  rw [e2] at e
  obtain ⟨h1, h2⟩ := evU_of e
  rw [h1, h2]
  exact ⟨h.ev k _ _ e, e⟩
theorem UnitsOk.inj {es : List Ev} {us : List Un} (h : UnitsOk es us) {j k : Nat} (hj : j < us.length) (hk : k < us.length) (e : ixU us j = ixU us k) : j = k := by
  have h1 : (us.map (·.1))[j]? = some (ixU us j) := by rw [List.getElem?_map, (h.at_ hj).2]; rfl
  have h2 : (us.map (·.1))[k]? = some (ixU us k) := by rw [List.getElem?_map, (h.at_ hk).2]; rfl
  exact (List.getElem?_inj (by simpa using hj) h.nd).1 (by rw [h1, h2, e])
/-- A path, with the times written down, is a way through the events one by one. -/
theorem times_at {d : List (List Int)} {es : List Ev} {us : List Un} (hu : UnitsOk es us) : ∀ (n : Nat) (s : List Nat), s.length = n → okP d us s → ∀ k u, s[k]? = some u → at0 (timesF d us es.length s) (ixU us u) = (pathF d us (s.take (k + 1))).2.2
  | 0, s, h, _, k, u, hk => by
    have : s = [] := List.eq_nil_of_length_eq_zero h
    subst this
    simp at hk
  | n + 1, s, h, hp, k, u, hk => by
    obtain ⟨t, v, rfl⟩ : ∃ t u, s = t ++ [u] := snoc_of h
    have hnd := okP_nodup _ _ rfl hp
    have hv : v < us.length := hnd.2 v (by simp)
    have hix : ixU us v < es.length := (List.getElem?_eq_some_iff.1 (hu.at_ hv).1).1
    rw [times_snoc, at0_set _ (by rw [times_len d us _ _ t rfl]; exact hix)]
    by_cases h1 : k = t.length
    · subst h1
      simp at hk
      subst hk
      rw [if_pos rfl, List.take_of_length_le (by simp)]
    · have hlt : k < t.length := by have := (List.getElem?_eq_some_iff.1 hk).1; simp at this; omega
      have hk' : t[k]? = some u := by rw [List.getElem?_append_left hlt] at hk; exact hk
      have hne : u ≠ v := fun e => by
        have h2 := (List.nodup_append.1 hnd.1).2.2 u (List.mem_of_getElem? hk') v (by simp)
        exact h2 e
      have hu2 : u < us.length := hnd.2 u (by simp [List.mem_of_getElem? hk'])
      rw [if_neg (fun e => hne (hu.inj hu2 hv e)), List.take_append_of_le_length (by omega)]
      exact times_at hu n t (by simpa using h) (okP_pre hp) k u hk'
theorem path_sim {d : List (List Int)} {es : List Ev} {us : List Un} (hu : UnitsOk es us) {s : List Nat} (hp : okP d us s) {T : Nat → Int} (hT : ∀ k u, s[k]? = some u → T (ixU us u) = (pathF d us (s.take (k + 1))).2.2) :
    ∀ (m k : Nat), k + m = s.length → SimOk d es T (pathF d us (s.take k)).2.1 (pathF d us (s.take k)).2.2 ((s.drop k).map (ixU us))
  | 0, k, h => by rw [List.drop_of_length_le (by omega)]; trivial
  | m + 1, k, h => by
    have hk : k < s.length := by omega
    have hx := List.getElem?_eq_getElem hk
    have ok := hp k _ hx
    have ih := path_sim hu hp hT m (k + 1) (by omega)
    have e1 : s.take (k + 1) = s.take k ++ [s[k]] := by rw [List.take_add_one, hx]; rfl
    have e2 := hT k _ hx
    rw [e1, pathF_snoc] at ih e2
    rw [List.drop_eq_getElem_cons hk, List.map_cons]
    refine ⟨evU us s[k], (hu.at_ ok.1).1, ?_, ?_, ?_⟩
    · rw [e2]; rfl
    · rw [e2]; exact ok.2.2
    · rw [e2]; exact ih
/-- A path over all units gives possible times. -/
theorem path_holds {d : List (List Int)} {es : List Ev} {us : List Un} (hd : DistOk d) (ho : ∀ e ∈ es, isOff d e.o) (hw : ∀ e ∈ es, clampLo e ≤ clampHi e) (hu : UnitsOk es us) {s : List Nat} (hp : okP d us s) (hs : s.length = us.length) : HoldsP d es (timesF d us es.length s) := by
  have hnd := okP_nodup _ _ rfl hp
  have hall := (nodup_full us.length s hnd.1 hnd.2).2 hs
  have hsim := path_sim hu hp (T := at0 (timesF d us es.length s)) (fun k u hk => times_at hu _ s rfl hp k u hk) s.length 0 (by omega)
  refine sim_holds hd ho hw (times_len d us _ _ s rfl) (s := s.map (ixU us)) (fun i hi => ?_) (by simpa [pathF, st0] using hsim)
  have h1 : ∀ x ∈ us.map (·.1), x < es.length := fun x hx => by
    obtain ⟨p, hp1, rfl⟩ := List.mem_map.1 hx
    obtain ⟨k, hk⟩ := List.getElem?_of_mem hp1
    exact (List.getElem?_eq_some_iff.1 (hu.ev k p.1 p.2 hk)).1
  have h2 := (nodup_full es.length (us.map (·.1)) hu.nd h1).2 (by simp [hu.len]) i hi
  obtain ⟨k, hk⟩ := List.getElem?_of_mem h2
  have hkl : k < us.length := by have := (List.getElem?_eq_some_iff.1 hk).1; simpa using this
  refine List.mem_map.2 ⟨k, hall k hkl, ?_⟩
  have e := (hu.at_ hkl).2
  rw [List.getElem?_map, e] at hk
  simpa using hk
/-- A unit can be before another one. -/
def fitsF (d : List (List Int)) (us : List Un) (i j : Nat) : Bool := decide (0 ≤ beginF d (evU us i).o (clampLo (evU us i)) (evU us j))
/-- One pair of units in precede. -/
def precS (d : List (List Int)) (us : List Un) (j i : Nat) (f : List Nat) : Option (List Nat) :=
  if fitsF d us i j = false then (if fitsF d us j i = false then none else some (f.set i (f.getD i 0 ||| 2 ^ j)))
  else (if fitsF d us j i = false then some (f.set j (f.getD j 0 ||| 2 ^ i)) else some f)
def precI (d : List (List Int)) (us : List Un) (j : Nat) : Nat → List Nat → Option (List Nat)
  | 0, f => some f
  | i + 1, f => (precI d us j i f).bind (precS d us j i)
def precJ (d : List (List Int)) (us : List Un) : Nat → Option (List Nat)
  | 0 => some (List.replicate us.length 0)
  | j + 1 => (precJ d us j).bind (precI d us j j)
theorem precI_none {d : List (List Int)} {us : List Un} {j i : Nat} {f : List Nat} (h : precI d us j i f = none) : ∀ m, precI d us j (i + m) f = none
  | 0 => h
  | m + 1 => by rw [← Nat.add_assoc, precI, precI_none h m]; rfl
theorem precJ_none {d : List (List Int)} {us : List Un} {j : Nat} (h : precJ d us j = none) : ∀ m, precJ d us (j + m) = none
  | 0 => h
  | m + 1 => by rw [← Nat.add_assoc, precJ, precJ_none h m]; rfl
theorem prec_bad {d : List (List Int)} {us : List Un} {n j i : Nat} {f g : List Nat} (hj : precJ d us j = some f) (hi : precI d us j i f = some g) (hij : i < j) (hjn : j < n) (h : precS d us j i g = none) : precJ d us n = none := by
  have h1 : precI d us j (i + 1) f = none := by rw [precI, hi]; exact h
  have h2 := precI_none h1 (j - (i + 1))
  rw [show i + 1 + (j - (i + 1)) = j by omega] at h2
  have h3 : precJ d us (j + 1) = none := by rw [precJ, hj]; exact h2
  have h4 := precJ_none h3 (n - (j + 1))
  rwa [show j + 1 + (n - (j + 1)) = n by omega] at h4
/-- What is known of the masks. -/
structure MasksOk (n : Nat) (f : List Nat) : Prop where
  len : f.length = n
  lt : ∀ x ∈ f, x < 2 ^ 16
theorem MasksOk.start (n : Nat) : MasksOk n (List.replicate n 0) := ⟨by simp, fun x hx => by rw [(List.mem_replicate.1 hx).2]; decide⟩
theorem MasksOk.at_ {n : Nat} {f : List Nat} (h : MasksOk n f) (i : Nat) : f.getD i 0 < 2 ^ 16 := by
  rw [List.getD_eq_getElem?_getD]
  cases e : f[i]? with
  | none => decide
  | some x => exact h.lt x (List.mem_of_getElem? e)
theorem pow_lt16 {u : Nat} (h : u < 16) : 2 ^ u < 2 ^ 16 := Nat.pow_lt_pow_right (by decide) h
theorem MasksOk.put {n : Nat} {f : List Nat} (h : MasksOk n f) {i j : Nat} (hj : j < 16) : MasksOk n (f.set i (f.getD i 0 ||| 2 ^ j)) :=
  ⟨by rw [List.length_set]; exact h.len, fun x hx => by
    rcases List.mem_or_eq_of_mem_set hx with hx | rfl
    · exact h.lt x hx
    · exact Nat.or_lt_two_pow (h.at_ i) (pow_lt16 hj)⟩
theorem MasksOk.step {n : Nat} {d : List (List Int)} {us : List Un} {f g : List Nat} (h : MasksOk n f) {i j : Nat} (hi : i < 16) (hj : j < 16) (e : precS d us j i f = some g) : MasksOk n g := by
  unfold precS at e
  split at e <;> split at e
  · cases e
  · injection e with e; subst e; exact h.put hj
  · injection e with e; subst e; exact h.put hi
  · injection e with e; subst e; exact h
/-- A unit that happens at once where the last one ended. -/
def freeF (d : List (List Int)) (us : List Un) (s : St) (u : Nat) : Bool := ((evU us u).o == s.2.1) && (beginF d s.2.1 s.2.2 (evU us u) == s.2.2)
/-- What choices has gathered after some units. -/
def choK (d : List (List Int)) (us : List Un) (f : List Nat) (s : St) : Nat → List Nat × Int
  | 0 => ([], -1)
  | k + 1 =>
    let r := choK d us f s k
    if hasB s.1 k then r else if andn (f.getD k 0) s.1 = 0 then (r.1 ++ [k], if r.2 < 0 ∧ freeF d us s k = true then (k : Int) else r.2) else r
def stuckB (d : List (List Int)) (us : List Un) (s : St) (k : Nat) : Bool := (List.range k).any fun u => !hasB s.1 u && decide (beginF d s.2.1 s.2.2 (evU us u) < 0)
def choF (d : List (List Int)) (us : List Un) (f : List Nat) (s : St) : List Nat :=
  if stuckB d us s us.length then [] else let r := choK d us f s us.length; if 0 ≤ r.2 then [r.2.toNat] else r.1
theorem stuck_not {d : List (List Int)} {us : List Un} {s : St} {k : Nat} (h : stuckB d us s k = false) {u : Nat} (hu : u < k) (hb : hasB s.1 u = false) : 0 ≤ beginF d s.2.1 s.2.2 (evU us u) := by
  unfold stuckB at h
  rw [List.any_eq_false] at h
  have := h u (by simpa using hu)
  simp [hb] at this
  exact this
theorem stuck_next {d : List (List Int)} {us : List Un} {s : St} {k : Nat} (h : stuckB d us s k = false) (hk : hasB s.1 k = true ∨ 0 ≤ beginF d s.2.1 s.2.2 (evU us k)) : stuckB d us s (k + 1) = false := by
  unfold stuckB at *
  rw [List.range_succ, List.any_append, h]
  rcases hk with hk | hk
  · simp [hk]
  · have : ¬ beginF d s.2.1 s.2.2 (evU us k) < 0 := by omega
    simp [this]
theorem stuck_yes {d : List (List Int)} {us : List Un} {s : St} {k n : Nat} (hk : k < n) (h : hasB s.1 k = false) (hb : beginF d s.2.1 s.2.2 (evU us k) < 0) : stuckB d us s n = true := by
  unfold stuckB
  rw [List.any_eq_true]
  exact ⟨k, by simpa using hk, by simp [h, hb]⟩
theorem choK_len (d : List (List Int)) (us : List Un) (f : List Nat) (s : St) : ∀ k, (choK d us f s k).1.length ≤ k
  | 0 => by simp [choK]
  | k + 1 => by
    have := choK_len d us f s k
    simp only [choK]
    split
    · omega
    · split
      · simp; omega
      · omega
theorem choK_mem (d : List (List Int)) (us : List Un) (f : List Nat) (s : St) : ∀ k, (∀ u ∈ (choK d us f s k).1, u < k ∧ hasB s.1 u = false) ∧ ((choK d us f s k).2 = -1 ∨ ∃ u : Nat, (choK d us f s k).2 = (u : Int) ∧ u < k ∧ hasB s.1 u = false)
  | 0 => by simp [choK]
  | k + 1 => by
    obtain ⟨h1, h2⟩ := choK_mem d us f s k
    have h1' : ∀ u ∈ (choK d us f s k).1, u < k + 1 ∧ hasB s.1 u = false := fun u hu => ⟨by have := (h1 u hu).1; omega, (h1 u hu).2⟩
    have h2' : (choK d us f s k).2 = -1 ∨ ∃ u : Nat, (choK d us f s k).2 = (u : Int) ∧ u < k + 1 ∧ hasB s.1 u = false := by
      rcases h2 with h2 | ⟨u, e, hu, hb⟩
      · exact .inl h2
      · exact .inr ⟨u, e, by omega, hb⟩
    simp only [choK]
    split
    · exact ⟨h1', h2'⟩
    · rename_i hb
      have hb' : hasB s.1 k = false := by simpa using hb
      split
      · refine ⟨fun u hu => ?_, ?_⟩
        · rcases List.mem_append.1 hu with hu | hu
          · exact h1' u hu
          · simp at hu; subst hu; exact ⟨by omega, hb'⟩
        · split
          · exact .inr ⟨k, rfl, by omega, hb'⟩
          · exact h2'
      · exact ⟨h1', h2'⟩
/-- What can be next, can. -/
theorem cho_ok {d : List (List Int)} {us : List Un} {f : List Nat} {s : St} {u : Nat} (h : u ∈ choF d us f s) : okU d us s u := by
  unfold choF at h
  split at h
  · simp at h
  · rename_i hs
    have hs' : stuckB d us s us.length = false := by simpa using hs
    obtain ⟨h1, h2⟩ := choK_mem d us f s us.length
    simp only at h
    split at h
    · rename_i h0
      rcases h2 with h2 | ⟨v, e, hv, hb⟩
      · omega
      · rw [e] at h
        simp at h
        subst h
        exact ⟨hv, hb, stuck_not hs' hv hb⟩
    · obtain ⟨hv, hb⟩ := h1 u h
      exact ⟨hv, hb, stuck_not hs' hv hb⟩
theorem cho_len (d : List (List Int)) (us : List Un) (f : List Nat) (s : St) : (choF d us f s).length ≤ us.length + 1 := by
  unfold choF
  split
  · simp
  · simp only
    split
    · simp
    · have := choK_len d us f s us.length; omega
/-- The way of quick, after some units. -/
def quickK (d : List (List Int)) (us : List Un) (f : List Nat) : Nat → Option (List Nat)
  | 0 => some []
  | k + 1 => (quickK d us f k).bind fun s => (choF d us f (pathF d us s)).head?.map fun u => s ++ [u]
theorem quick_none {d : List (List Int)} {us : List Un} {f : List Nat} {k : Nat} (h : quickK d us f k = none) : ∀ m, quickK d us f (k + m) = none
  | 0 => h
  | m + 1 => by rw [← Nat.add_assoc, quickK, quick_none h m]; rfl
theorem quick_ok {d : List (List Int)} {us : List Un} {f : List Nat} : ∀ (k : Nat) (s : List Nat), quickK d us f k = some s → okP d us s ∧ s.length = k
  | 0, s, h => by simp only [quickK, Option.some.injEq] at h; subst h; exact ⟨okP_nil d us, rfl⟩
  | k + 1, s, h => by
    simp only [quickK] at h
    cases e : quickK d us f k with
    | none => rw [e] at h; cases h
    | some t =>
      rw [e] at h
      simp only [Option.bind_some] at h
      cases e2 : (choF d us f (pathF d us t)).head? with
      | none => rw [e2] at h; cases h
      | some u =>
        rw [e2] at h
        simp only [Option.map_some, Option.some.injEq] at h
        subst h
        obtain ⟨h1, h2⟩ := quick_ok k t e
        exact ⟨okP_snoc h1 (cho_ok (List.mem_of_mem_head? e2)), by simp [h2]⟩
theorem quick_bad {d : List (List Int)} {us : List Un} {f : List Nat} {k n : Nat} {s : List Nat} (h : quickK d us f k = some s) (hk : k < n) (h0 : choF d us f (pathF d us s) = []) : quickK d us f n = none := by
  have h1 : quickK d us f (k + 1) = none := by rw [quickK, h]; simp [h0]
  have h2 := quick_none h1 (n - (k + 1))
  rwa [show k + 1 + (n - (k + 1)) = n by omega] at h2
theorem quick_step {d : List (List Int)} {us : List Un} {f : List Nat} {k : Nat} {s : List Nat} {u : Nat} {l : List Nat} (h : quickK d us f k = some s) (h0 : choF d us f (pathF d us s) = u :: l) : quickK d us f (k + 1) = some (s ++ [u]) := by
  rw [quickK, h]; simp [h0]
/-- The states that full has met: a set and an office; how each was reached: time, unit, office before. -/
abbrev Ks := Nat × Int
structure FI (d : List (List Int)) (us : List Un) (r : Nat) (G : Ks → Option (Int × Nat × Int)) : Prop where
  start : G (0, -1) = some (0, 0, 0)
  cnt : ∀ st v, G st = some v → cntB us.length st.1 ≤ r
  ent : ∀ st t u o, G st = some (t, u, o) → (st = (0, -1) ∧ t = 0) ∨ (u < us.length ∧ ∃ m, hasB m u = false ∧ st = (m ||| 2 ^ u, (evU us u).o) ∧ ∃ t0 v0, G (m, o) = some (t0, v0) ∧ 0 ≤ beginF d o t0 (evU us u) ∧ t = beginF d o t0 (evU us u))
theorem FI.first (d : List (List Int)) (us : List Un) : FI d us 0 (fun k => if k = (0, -1) then some (0, 0, 0) else none) where
  start := by simp
  cnt := fun st v h => by
    split at h
    · rename_i e; subst e; simp [cntB_zero]
    · cases h
  ent := fun st t u o h => by
    split at h
    · rename_i e; injection h with h; injection h with h1 h2; exact .inl ⟨e, h1.symm⟩
    · cases h
theorem FI.more {d : List (List Int)} {us : List Un} {r r' : Nat} {G : Ks → Option (Int × Nat × Int)} (h : FI d us r G) (hr : r ≤ r') : FI d us r' G := ⟨h.start, fun st v e => Nat.le_trans (h.cnt st v e) hr, h.ent⟩
theorem FI.put {d : List (List Int)} {us : List Un} {r : Nat} {G : Ks → Option (Int × Nat × Int)} (h : FI d us (r + 1) G) {now : Ks} {t0 : Int} {v0 : Nat × Int} (hn : G now = some (t0, v0)) (hc : cntB us.length now.1 = r) {u : Nat} (hu : okU d us (now.1, now.2, t0) u) :
    FI d us (r + 1) (fun k => if k = (now.1 ||| 2 ^ u, (evU us u).o) then some (beginF d now.2 t0 (evU us u), u, now.2) else G k) ∧ cntB us.length (now.1 ||| 2 ^ u) = r + 1 := by
  have hcu : cntB us.length (now.1 ||| 2 ^ u) = r + 1 := by rw [cntB_or _ _ _ hu.2.1, if_pos hu.1, hc]
  refine ⟨⟨?_, fun st v e => ?_, fun st t w o e => ?_⟩, hcu⟩
  · have : ¬ ((0, -1) : Ks) = (now.1 ||| 2 ^ u, (evU us u).o) := fun e => by
      have e1 : (0 : Nat) = now.1 ||| 2 ^ u := congrArg Prod.fst e
      rw [← e1, cntB_zero] at hcu
      omega
    rw [if_neg this]; exact h.start
  · split at e
    · rename_i e1; subst e1; exact Nat.le_of_eq hcu
    · exact h.cnt st v e
  · have hpred : ∀ m o, cntB us.length m ≤ r → (if (m, o) = (now.1 ||| 2 ^ u, (evU us u).o) then some (beginF d now.2 t0 (evU us u), u, now.2) else G (m, o)) = G (m, o) := fun m o hm => by
      rw [if_neg]
      intro e1
      have e2 : m = now.1 ||| 2 ^ u := congrArg Prod.fst e1
      rw [e2, hcu] at hm
      omega
    split at e
    · rename_i e1
      injection e with e
      injection e with e2 e3
      injection e3 with e3 e4
      subst e1 e2 e3 e4
      refine .inr ⟨hu.1, now.1, hu.2.1, rfl, t0, v0, ?_, hu.2.2, rfl⟩
      rw [hpred now.1 now.2 (by omega)]; exact hn
    · rcases h.ent st t w o e with h1 | ⟨hw, m, hm, e2, t1, v1, hG, h0, ht⟩
      · exact .inl h1
      · refine .inr ⟨hw, m, hm, e2, t1, v1, ?_, h0, ht⟩
        rw [hpred m o ?_]
        · exact hG
        · have := h.cnt st _ e
          rw [e2] at this
          simp only [cntB_or _ _ _ hm, if_pos hw] at this
          omega
/-- The way back from a state. -/
def backF (G : Ks → Option (Int × Nat × Int)) : Nat → Ks → List Nat
  | 0, _ => []
  | k + 1, st => match G st with
    | none => []
    | some (_, u, o) => backF G k (andn st.1 (2 ^ u), o) ++ [u]
theorem back_step {G : Ks → Option (Int × Nat × Int)} {k : Nat} {st : Ks} {t : Int} {u : Nat} {o : Int} (h : G st = some (t, u, o)) : backF G (k + 1) st = backF G k (andn st.1 (2 ^ u), o) ++ [u] := by simp [backF, h]
theorem FI.pred {d : List (List Int)} {us : List Un} {r k : Nat} {G : Ks → Option (Int × Nat × Int)} (h : FI d us r G) {st : Ks} {t : Int} {u : Nat} {o : Int} (hG : G st = some (t, u, o)) (hc : cntB us.length st.1 = k + 1) :
    u < us.length ∧ st = (andn st.1 (2 ^ u) ||| 2 ^ u, (evU us u).o) ∧ hasB (andn st.1 (2 ^ u)) u = false ∧ cntB us.length (andn st.1 (2 ^ u)) = k ∧ ∃ t0 v0, G (andn st.1 (2 ^ u), o) = some (t0, v0) ∧ 0 ≤ beginF d o t0 (evU us u) ∧ t = beginF d o t0 (evU us u) := by
  rcases h.ent st t u o hG with ⟨e, _⟩ | ⟨hu, m, hm, e, t0, v0, h1, h2, h3⟩
  · rw [e] at hc; simp [cntB_zero] at hc
  · have e1 : st.1 = m ||| 2 ^ u := by rw [e]
    have e2 : andn st.1 (2 ^ u) = m := by rw [e1]; exact andn_or hm
    rw [e2]
    refine ⟨hu, e, hm, ?_, t0, v0, h1, h2, h3⟩
    rw [e1, cntB_or _ _ _ hm, if_pos hu] at hc
    omega
theorem back_ok {d : List (List Int)} {us : List Un} {r : Nat} {G : Ks → Option (Int × Nat × Int)} (h : FI d us r G) : ∀ (k : Nat) (st : Ks) (t : Int) (v : Nat × Int), G st = some (t, v) → cntB us.length st.1 = k →
    (backF G k st).length = k ∧ okP d us (backF G k st) ∧ pathF d us (backF G k st) = (st.1, st.2, t)
  | 0, st, t, (u, o), hG, hc => by
    rcases h.ent st t u o hG with ⟨e, e2⟩ | ⟨hu, m, hm, e, _⟩
    · subst e e2
      exact ⟨rfl, okP_nil d us, rfl⟩
    · rw [e] at hc
      simp only [cntB_or _ _ _ hm, if_pos hu] at hc
      omega
  | k + 1, st, t, (u, o), hG, hc => by
    obtain ⟨hu, e, hm, hc2, t0, v0, h1, h2, h3⟩ := h.pred hG hc
    obtain ⟨i1, i2, i3⟩ := back_ok h k _ t0 v0 h1 hc2
    rw [back_step hG]
    refine ⟨by simp [i1], okP_snoc i2 (by rw [i3]; exact ⟨hu, hm, h2⟩), ?_⟩
    rw [pathF_snoc, i3]
    subst h3
    have e1 : st.1 = andn st.1 (2 ^ u) ||| 2 ^ u := congrArg Prod.fst e
    have e2 : st.2 = (evU us u).o := congrArg Prod.snd e
    unfold stepU
    rw [e2, ← e1]
end Go.Proofs.Ythkmpegpmpdhaaa
