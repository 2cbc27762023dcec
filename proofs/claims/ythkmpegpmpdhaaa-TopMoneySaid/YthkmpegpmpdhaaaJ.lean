/- Part of the proofs of TopMoney and TopOrders. Conditions: as stated in each theorem. -/
import Derived.Test.YthkmpegpmpdhaaaI
import Derived.Deep.CutRange
import Derived.StillTailTactics
import Derived.Lib.SliceRun
import Derived.RangeFuncRecord
import Derived.Carry
import Derived.ChangeKeysEq
import Derived.Test.YthkmpegpmpdhaaaRows
import Derived.WalkKit
import Derived.WalkSpells
import Derived.WalkLawsBesides
import Derived.Laws.EntriesVeiled
import Derived.ProofKit
import Derived.OpenShut
import Derived.Lib.Hide
import Derived.BigQuiet
import Derived.Deep.QuietTactic
import Derived.Below
import Derived.Laws.OwnMore
import Derived.Deep.AppendLies
import Derived.Deep.Draws
import Derived.Laws.Rows
import Derived.Maps.AppendAt
import Derived.RegionTactic
import Derived.OwnWalk
import Derived.Deep.RegionHeld3
namespace Go.Proofs.Ythkmpegpmpdhaaa
open Go.ChangeShapes Go.WideShapes Go.ChangeAt Go.RowKit
set_option linter.unusedSimpArgs false
set_option linter.unusedVariables false
def IntsPost (r : List Int) (b : Int) (w : World) (e : Ending) (w' : World) : Prop := ∃ A c, e = .returned (.tuple #[.slice A r.length c, .int .i64 b]) ∧ RecIn intR w' w'.heap.size A r ∧ Keeps w w'
/-- The parts of an amount. -/
def splitF (amount : Int) (by' : List Int) : List Int := bump (baseL amount by') (((sortR (remL amount by')).take (leftN amount by').toNat).map (·.1))
theorem split_parts {amount : Int} {by' : List Int} (ha : 0 ≤ amount) (hb : ∀ x ∈ by', 0 ≤ x) (ht : 0 < sumL by') : (leftN amount by').toNat ≤ by'.length ∧ Parts amount by' (splitF amount by') := by
  obtain ⟨h1, h2, h3⟩ := sortR_is (remL amount by')
  obtain ⟨h4, h5⟩ := parts_of ha hb ht h1 h2
  refine ⟨?_, h5⟩
  rw [h3] at h4
  simpa [remL] using h4
def fillI (n k : Nat) (f : Nat → Int) : List Int := (List.range n).map fun i => if i < k then f i else 0
theorem fillI_len (n k : Nat) (f : Nat → Int) : (fillI n k f).length = n := by simp [fillI]
theorem fillI_at {n k : Nat} {f : Nat → Int} {i : Nat} (h : i < n) : at0 (fillI n k f) i = if i < k then f i else 0 := at0_get (by simp [fillI, h])
theorem fillI_set {n k : Nat} {f : Nat → Int} (hk : k < n) : (fillI n k f).set k (f k) = fillI n (k + 1) f := by
  refine at0_ext (by simp [fillI]) fun i hi => ?_
  have hi' : i < n := by simpa [fillI] using hi
  rw [at0_set _ (by simpa [fillI] using hk), fillI_at hi', fillI_at hi']
  by_cases e : i = k
  · subst e; simp
  · rw [if_neg e]
    by_cases c : i < k
    · rw [if_pos c, if_pos (by omega)]
    · rw [if_neg c, if_neg (by omega)]
theorem fillI_zero (n : Nat) (f : Nat → Int) : fillI n 0 f = List.replicate n 0 := by
  refine List.ext_getElem? fun i => ?_
  unfold fillI
  rw [List.getElem?_map, List.getElem?_replicate]
  by_cases h : i < n
  · rw [List.getElem?_range h, if_pos h]; simp
  · rw [List.getElem?_eq_none (by simp; omega), if_neg h]; rfl
theorem fillI_full (n : Nat) (f : Nat → Int) : fillI n n f = (List.range n).map f := List.map_congr_left fun i hi => by rw [if_pos (List.mem_range.1 hi)]
def fillR (n k : Nat) (f : Nat → Int) : List (Nat × Int) := (List.range n).map fun i => if i < k then (i, f i) else (0, 0)
theorem fillR_len (n k : Nat) (f : Nat → Int) : (fillR n k f).length = n := by simp [fillR]
theorem fillR_get {n k : Nat} {f : Nat → Int} {i : Nat} (h : i < n) : (fillR n k f)[i]? = some (if i < k then (i, f i) else (0, 0)) := by simp [fillR, h]
theorem fillR_set {n k : Nat} {f : Nat → Int} (hk : k < n) : (fillR n k f).set k (k, f k) = fillR n (k + 1) f := by
  refine List.ext_getElem? fun i => ?_
  rw [List.getElem?_set]
  by_cases e : k = i
  · subst e
    rw [if_pos rfl, if_pos (by rw [fillR_len]; exact hk), fillR_get hk, if_pos (by omega)]
  · rw [if_neg e]
    by_cases h : i < n
    · rw [fillR_get h, fillR_get h]
      by_cases c : i < k
      · rw [if_pos c, if_pos (by omega)]
      · rw [if_neg c, if_neg (by omega)]
    · rw [List.getElem?_eq_none (by rw [fillR_len]; omega), List.getElem?_eq_none (by rw [fillR_len]; omega)]
theorem fillR_zero (n : Nat) (f : Nat → Int) : fillR n 0 f = List.replicate n (0, 0) := by
  refine List.ext_getElem? fun i => ?_
  rw [List.getElem?_replicate]
  by_cases h : i < n
  · rw [fillR_get h, if_pos h]; simp
  · rw [List.getElem?_eq_none (by rw [fillR_len]; omega), if_neg h]
theorem fillR_full (n : Nat) (f : Nat → Int) : fillR n n f = (List.range n).map fun i => (i, f i) := List.map_congr_left fun i hi => by rw [if_pos (List.mem_range.1 hi)]
/-- An element of two cells stored. -/
theorem rm_set {w0 w : World} {g n cap : Nat} {l : List (Nat × Int)} (h : OwnR rmR w0 w (.slice (some ⟨g, 0, none⟩) n cap) l) {j : Nat} (x : Nat × Int) (hj : j < l.length) : OwnR rmR w0 ((w.setCell ⟨g, j * 2, none⟩ (.int .i64 (x.1 : Int))).setCell ⟨g, j * 2 + 1, none⟩ (.int .i64 x.2)) (.slice (some ⟨g, 0, none⟩) n cap) (l.set j x) := by
  have h1 := OwnR.put (R := rmR) (fun _ => rfl) h (j := j) (i := 0) (x := l[j]) (x' := (x.1, l[j].2)) (u := .int .i64 (x.1 : Int)) (List.getElem?_eq_getElem hj) (by decide) rfl
  have h2 := OwnR.put (R := rmR) (fun _ => rfl) h1 (j := j) (i := 1) (x := (x.1, l[j].2)) (x' := x) (u := .int .i64 x.2) (by rw [List.getElem?_set, if_pos rfl, if_pos hj]) (by decide) rfl
  rw [List.set_set] at h2
  exact h2
theorem own_cap {α : Type} {R : RowTy α} {w0 w : World} {A : Option Addr} {n c : Nat} {l : List α} (h : OwnR R w0 w (.slice A n c) l) (hn : 0 < n) : n ≤ c := by
  have hl := own_len h
  rcases h.1.2 with ⟨e, h0⟩ | ⟨g, cap, cur, e, _, _, h1, _⟩
  · omega
  · injection e with e1 e2 e3; omega
theorem split_left (amount : Int) (by' : List Int) (k : Nat) (hk : k < by'.length) : amount - sumL ((by'.take (k + 1)).map (baseF amount (sumL by'))) = amount - sumL ((by'.take k).map (baseF amount (sumL by'))) - baseF amount (sumL by') (at0 by' k) := by
  rw [List.take_add_one, get_at0 hk, List.map_append, sumL_append]; simp [sumL]; omega
theorem sum_take_bnd {l : List Int} (h : ∀ x ∈ l, 0 ≤ x ∧ x ≤ 1000000) (k : Nat) : 0 ≤ sumL (l.take k) ∧ sumL (l.take k) ≤ 1000000 * (k : Int) := by
  induction k with
  | zero => simp [sumL]
  | succ k ih =>
    by_cases hk : k < l.length
    · have := h _ (List.mem_of_getElem? (get_at0 hk))
      rw [List.take_add_one, get_at0 hk, sumL_append]; simp [sumL]; omega
    · have e : l.take (k + 1) = l.take k := by rw [List.take_of_length_le (by omega), List.take_of_length_le (by omega)]
      rw [e]; omega
theorem base_bnd {amount total x : Int} (ha : 0 ≤ amount ∧ amount ≤ 1000000000) (hx : 0 ≤ x ∧ x ≤ 1000000) (ht : 0 < total) : (0 ≤ amount * x ∧ amount * x ≤ 1000000000000000) ∧ (0 ≤ baseF amount total x ∧ baseF amount total x ≤ 1000000000000000) ∧ 0 ≤ leftF amount total x ∧ leftF amount total x < total := by
  have h1 : 0 ≤ amount * x := Int.mul_nonneg ha.1 hx.1
  have h2 : amount * x ≤ 1000000000 * 1000000 := Int.mul_le_mul ha.2 hx.2 hx.1 (by omega)
  have h3 : 0 ≤ baseF amount total x := Int.ediv_nonneg h1 (by omega)
  have h4 : baseF amount total x ≤ amount * x := Int.ediv_le_self _ h1
  exact ⟨⟨h1, by omega⟩, ⟨h3, by omega⟩, Int.emod_nonneg _ (by omega), Int.emod_lt_of_pos _ ht⟩
theorem split_left' {amount total : Int} {l : List Int} {k : Nat} (hk : k < l.length) : sumL ((l.take (k + 1)).map (baseF amount total)) = sumL ((l.take k).map (baseF amount total)) + baseF amount total (at0 l k) := by
  rw [List.take_add_one, get_at0 hk, List.map_append, sumL_append]; simp [sumL]
theorem base_sum {amount total : Int} (ha : 0 ≤ amount ∧ amount ≤ 1000000000) {l : List Int} (hl : ∀ x ∈ l, 0 ≤ x ∧ x ≤ 1000000) (ht : 0 < total) (k : Nat) : 0 ≤ sumL ((l.take k).map (baseF amount total)) ∧ sumL ((l.take k).map (baseF amount total)) ≤ 1000000000000000 * (k : Int) := by
  induction k with
  | zero => simp [sumL]
  | succ k ih =>
    by_cases hk : k < l.length
    · have := (base_bnd ha (hl _ (List.mem_of_getElem? (get_at0 hk))) ht).2.1
      rw [split_left' hk]; omega
    · have e : l.take (k + 1) = l.take k := by rw [List.take_of_length_le (by omega), List.take_of_length_le (by omega)]
      rw [e]; omega
theorem bump_le (is : List Nat) : ∀ (l : List Int) (k : Nat), (∀ i ∈ is, i < l.length) → at0 (bump l is) k ≤ at0 l k + is.length := by
  induction is with
  | nil => intro l k _; simp [bump]
  | cons i is ih =>
    intro l k h
    have h1 := ih (l.set i (at0 l i + 1)) k (fun j hj => by simp; exact h j (by simp [hj]))
    rw [at0_set _ (h i (by simp))] at h1
    show at0 (bump (l.set i (at0 l i + 1)) is) k ≤ _
    simp only [List.length_cons]
    split at h1
    · rename_i e; subst e; omega
    · omega
theorem bump_next {b : List Int} {rs : List (Nat × Int)} {j : Nat} {r : Nat × Int} (h : rs[j]? = some r) : bump b ((rs.take (j + 1)).map (·.1)) = (bump b ((rs.take j).map (·.1))).set r.1 (at0 (bump b ((rs.take j).map (·.1))) r.1 + 1) := by
  rw [List.take_add_one, h]
  simp [bump, List.foldl_append]
theorem sortR_mem {amount : Int} {l : List Int} {r : Nat × Int} (h : r ∈ sortR (remL amount l)) : r.1 < l.length := by
  have := (sortR_is _).1.mem_iff.1 h
  simp only [remL, List.mem_map, List.mem_range] at this
  obtain ⟨i, hi, rfl⟩ := this
  exact hi
set_option maxHeartbeats 4000000 in
set_option maxRecDepth 100000 in
theorem split_no (amount : Int) (l : List Int) (A : Option Addr) (n c : Nat) (w : World) (hl : RecIn intR w w.heap.size A l) (hln : Hid (n = l.length)) (hn : n ≤ 100) (ha : Hid (0 ≤ amount ∧ amount ≤ 1000000000)) (hb : Hid (∀ x ∈ l, 0 ≤ x ∧ x ≤ 1000000)) (ht : Hid (sumL l = 0)) :
    Calls Try.prog 6 #[.int .i64 amount, .slice A n c] w (IntsPost [] 1 w) := by
  have HL := Lib.hid hl; clear hl
  have h100 : decide ((100 : Int) < (n : Int)) = false := by simp; omega
  have h100' : decide (100 < n) = false := by simp; omega
  go_enter Try.func6, Try.ntmps6
  go_wp2_with (go_at_call 22; (with_reducible refine (within_yes ha _).mono ?_); rintro e w1 ⟨rfl, rfl⟩)
  go_loopw [6, 27] (fun s i wr => ∃ (k : Nat), k ≤ n ∧ i = .int .i64 (k : Int) ∧ s = .int .i64 (sumL (l.take k)) ∧ Keeps w wr) (fun _ i _ => n - (intOf i).toNat)
  case atStart => exact ⟨0, by omega, rfl, rfl, Keeps.refl _⟩
  case round =>
    obtain ⟨k, hk, rfl, rfl, hK⟩ := hrel
    by_cases hkn : k < n
    · have hkl : k < l.length := by rw [← hln.out]; exact hkn
      obtain ⟨b, off, rfl, hb1, c0⟩ := (HL.out.keep hK).int (get_at0 hkl)
      have hnx : sumL (l.take (k + 1)) = sumL (l.take k) + at0 l k := by rw [List.take_add_one, get_at0 hkl, sumL_append]; simp [sumL]
      have hbd := sum_take_bnd hb.out k
      have hx := hb.out (at0 l k) (List.mem_of_getElem? (get_at0 hkl))
      have hw : IntKind.i64.wrap (sumL (l.take k) + at0 l k) = sumL (l.take k) + at0 l k := IntWalk.i64_in _ (by omega)
      have HX := Lib.hid hnx; have HW := Lib.hid hx
      generalize sumL (l.take k) = s at *
      generalize at0 l k = x at *
      have hki : (k : Int) < (n : Int) := by omega
      have hk0 : (0 : Int) ≤ (k : Int) := by omega
      have hkw : IntKind.i64.wrap ((k : Int) + 1) = (k : Int) + 1 := IntWalk.i64_in _ (by omega)
      clear hkl hnx hbd hx
      go_wp2_with (go_at_call 22; (with_reducible refine (within_yes HW _).mono ?_); rintro e w1 ⟨rfl, rfl⟩)
      go_roundw
      case rel => first | exact ⟨k + 1, by omega, by go_num, by rw [HX.out], hK⟩ | ((repeat apply Exists.intro); exact ⟨⟨k + 1, by omega, by go_num, by rw [HX.out], hK⟩, rfl⟩)
      case measure => simp [intOf]; omega
    · have e0 : sumL (l.take k) = 0 := by rw [List.take_of_length_le (by have := hln.out; omega)]; exact ht.out
      rw [e0]
      go_wp2_with fail
      go_ret2
      exact ⟨none, 0, rfl, RecIn.nil _, hK⟩
/-- The same with a row of the call's own. -/
def IntsOwn (r : List Int) (b : Int) (w : World) (e : Ending) (w' : World) : Prop := ∃ A c, e = .returned (.tuple #[.slice A r.length c, .int .i64 b]) ∧ OwnR intR w w' (.slice A r.length c) r
theorem OwnR.base {α : Type} {R : RowTy α} {w0 w1 w : World} {v : Value} {l : List α} (h : OwnR R w1 w v l) (hk : Keeps w0 w1) : OwnR R w0 w v l := by
  refine ⟨⟨h.1.1, ?_⟩, hk.trans h.2⟩
  rcases h.1.2 with ⟨rfl, e⟩ | ⟨g, cap, cur, rfl, hb, hx⟩
  · exact .inl ⟨rfl, e⟩
  · exact .inr ⟨g, cap, cur, rfl, Nat.le_trans hk.size hb, hx⟩
theorem OwnR.len {α : Type} {R : RowTy α} {w0 w : World} {A : Option Addr} {n c : Nat} {l : List α} (h : OwnR R w0 w (.slice A n c) l) (e : n = l.length) : OwnR R w0 w (.slice A l.length c) l := by subst e; exact h
set_option maxHeartbeats 4000000 in
set_option maxRecDepth 100000 in
theorem split_own (amount : Int) (l : List Int) (A : Option Addr) (n c : Nat) (w : World) (hl : RecIn intR w w.heap.size A l) (hln : Hid (n = l.length)) (hn : n ≤ 19) (ha : Hid (0 ≤ amount ∧ amount ≤ 1000000000)) (hb : Hid (∀ x ∈ l, 0 ≤ x ∧ x ≤ 1000000)) (ht : Hid (0 < sumL l)) :
    Calls Try.prog 6 #[.int .i64 amount, .slice A n c] w (IntsOwn (splitF amount l) 0 w) := by
  have HL := Lib.hid hl; clear hl
  have hn1 : 1 ≤ n := by
    rcases Nat.eq_zero_or_pos n with h | h
    · have h0 := hln.out
      rw [h] at h0
      have := ht.out
      rw [List.eq_nil_of_length_eq_zero h0.symm] at this
      simp [sumL] at this
    · exact h
  have h100 : decide ((100 : Int) < (n : Int)) = false := by simp; omega
  have h100' : decide (100 < n) = false := by simp; omega
  go_enter Try.func6, Try.ntmps6
  go_wp2_with (go_at_call 22; (with_reducible refine (within_yes ha _).mono ?_); rintro e w1 ⟨rfl, rfl⟩)
  go_loopw [6, 27] (fun s i wr => ∃ (k : Nat), k ≤ n ∧ i = .int .i64 (k : Int) ∧ s = .int .i64 (sumL (l.take k)) ∧ Keeps w wr) (fun _ i _ => n - (intOf i).toNat)
  case atStart => exact ⟨0, by omega, rfl, rfl, Keeps.refl _⟩
  case round =>
    obtain ⟨k, hk, rfl, rfl, hK⟩ := hrel
    by_cases hkn : k < n
    · have hkl : k < l.length := by rw [← hln.out]; exact hkn
      obtain ⟨b, off, rfl, hb1, c0⟩ := (HL.out.keep hK).int (get_at0 hkl)
      have hnx : sumL (l.take (k + 1)) = sumL (l.take k) + at0 l k := by rw [List.take_add_one, get_at0 hkl, sumL_append]; simp [sumL]
      have hbd := sum_take_bnd hb.out k
      have hx := hb.out (at0 l k) (List.mem_of_getElem? (get_at0 hkl))
      have hw : IntKind.i64.wrap (sumL (l.take k) + at0 l k) = sumL (l.take k) + at0 l k := IntWalk.i64_in _ (by omega)
      have HX := Lib.hid hnx; have HW := Lib.hid hx
      generalize sumL (l.take k) = s at *
      generalize at0 l k = x at *
      have hki : (k : Int) < (n : Int) := by omega
      have hk0 : (0 : Int) ≤ (k : Int) := by omega
      have hkw : IntKind.i64.wrap ((k : Int) + 1) = (k : Int) + 1 := IntWalk.i64_in _ (by omega)
      clear hkl hnx hbd hx
      go_wp2_with (go_at_call 22; (with_reducible refine (within_yes HW _).mono ?_); rintro e w1 ⟨rfl, rfl⟩)
      go_roundw
      case rel => first | exact ⟨k + 1, by omega, by go_num, by rw [HX.out], hK⟩ | ((repeat apply Exists.intro); exact ⟨⟨k + 1, by omega, by go_num, by rw [HX.out], hK⟩, rfl⟩)
      case measure => simp [intOf]; omega
    · have e0 : sumL (l.take k) = sumL l := by rw [List.take_of_length_le (by have := hln.out; omega)]
      rw [e0]
      clear e0
      have htb := sum_take_bnd hb.out n
      rw [List.take_of_length_le (by have := hln.out; omega)] at htb
      obtain ⟨total, htot⟩ : ∃ t, sumL l = t := ⟨_, rfl⟩
      have htp := ht.out
      rw [htot] at htb htp ⊢
      have htz : (total == 0) = false := by simp; omega
      have HT := Lib.hid htot; have HK := Lib.hid hK
      clear htot hK
      generalize wr = w3 at *
      go_wp2_with (at_make; first | (refine wpList_makeR intOk (w0 := w3) rfl (.tmp 41) (.tmp 41) rfl 0 (.int .i64 0) (by kernel_rfl) rfl n rfl rfl (by omega) (Keeps.refl _) ?_; intro w5 ho5 hg5; have HO5 := Lib.hid ho5; clear ho5 hg5) | (refine wpList_makeR rmOk (w0 := w3) rfl (.tmp 44) (.tmp 44) rfl (0, 0) (.agg #[.int .i64 0, .int .i64 0]) (by kernel_rfl) rfl n rfl rfl (by omega) HO5.out.2 ?_; intro w6 ho6 hg6; have HR6 := Lib.hid ho6; have HO6 := Lib.hid (HO5.out.keep (grown_keeps (Keeps.refl _) hg6 (fun k e => by cases e))); clear ho6 hg6))
      have hgs : w3.heap.size < w5.heap.size := (HO5.out.1.lt _ rfl).2
      have HO6sz : w3.heap.size ≤ w5.heap.size := Nat.le_of_lt hgs
      clear HO5
      go_loopw [11, 49] (fun s i wr => ∃ (k : Nat), k ≤ n ∧ i = .int .i64 (k : Int) ∧ s = .int .i64 (amount - sumL ((l.take k).map (baseF amount total))) ∧ OwnR intR w3 wr (.slice (some ⟨w3.heap.size, 0, none⟩) n n) (fillI n k fun i => baseF amount total (at0 l i)) ∧ OwnR rmR w3 wr (.slice (some ⟨w5.heap.size, 0, none⟩) n n) (fillR n k fun i => leftF amount total (at0 l i))) (fun _ i _ => n - (intOf i).toNat)
      case atStart => exact ⟨0, by omega, rfl, by simp [sumL], by rw [fillI_zero]; exact HO6.out, by rw [fillR_zero]; exact HR6.out⟩
      case round =>
        clear HO6 HR6
        obtain ⟨k, hk, rfl, rfl, hO, hR⟩ := hrel
        have HO := Lib.hid hO; have HR := Lib.hid hR
        clear hO hR
        by_cases hkn : k < n
        · have hkl : k < l.length := by rw [← hln.out]; exact hkn
          obtain ⟨b, off, rfl, hb1, c0⟩ := (HL.out.keep (HK.out.trans HO.out.2)).int (get_at0 hkl)
          have hx := hb.out (at0 l k) (List.mem_of_getElem? (get_at0 hkl))
          obtain ⟨g1, g2, g3, g4⟩ := base_bnd ha.out hx htp
          have g5 := base_sum ha.out hb.out htp k
          have hnx := split_left' (amount := amount) (total := total) hkl
          have f0 := HO.out.frozen k
          have f1 := HR.out.frozen (k * 2)
          have f2 := HR.out.frozen (k * 2 + 1)
          have d0 := own_cell HO.out (j := k) (by rw [fillI_len]; exact hkn)
          obtain ⟨_, off', e', _, r0, r1⟩ := (HR.out.recs rmOk).1.rm (fillR_get (n := n) (k := k) (f := fun i => leftF amount total (at0 l i)) hkn)
          cases e'
          rw [Nat.zero_add] at r0 r1
          obtain ⟨x, hxx⟩ : ∃ x, at0 l k = x := ⟨_, rfl⟩
          rw [hxx] at c0 hx g1 g2 g3 g4 hnx
          obtain ⟨q, hq⟩ : ∃ q, baseF amount total x = q := ⟨_, rfl⟩
          obtain ⟨r, hr⟩ : ∃ r, leftF amount total x = r := ⟨_, rfl⟩
          have hq' : amount * x / total = q := hq
          have hr' : amount * x % total = r := hr
          have hset := fillI_set (n := n) (k := k) (f := fun i => baseF amount total (at0 l i)) hkn
          have hsetR := fillR_set (n := n) (k := k) (f := fun i => leftF amount total (at0 l i)) hkn
          (try dsimp only at hset hsetR)
          rw [hxx, hq] at hset
          rw [hxx, hr] at hsetR
          rw [hq] at g2 hnx
          rw [hr] at g3 g4
          have HS := Lib.hid hset; have HSR := Lib.hid hsetR; have HNX := Lib.hid hnx
          have hki : (k : Int) < (n : Int) := by omega
          have hk0 : (0 : Int) ≤ (k : Int) := by omega
          have hkw : IntKind.i64.wrap ((k : Int) + 1) = (k : Int) + 1 := IntWalk.i64_in _ (by omega)
          have hmw : IntKind.i64.wrap (amount * x) = amount * x := IntWalk.i64_in _ (by omega)
          have hqw : IntKind.i64.wrap q = q := IntWalk.i64_in _ (by omega)
          have hrw : IntKind.i64.wrap r = r := IntWalk.i64_in _ (by omega)
          obtain ⟨z, hz⟩ : ∃ z, sumL ((l.take k).map (baseF amount total)) = z := ⟨_, rfl⟩
          rw [hz] at g5 HNX ⊢
          have ha' := ha.out
          have hzw : IntKind.i64.wrap (amount - z - q) = amount - z - q := IntWalk.i64_in _ (by omega)
          have HXQ := Lib.hid (show baseF amount total (at0 l k) = q by rw [hxx]; exact hq)
          clear hset hsetR hnx hz hq hr hxx ha' g5
          go_upto_region 20 with fail
          have O1 := Lib.hid (own_set HO.out q (by rw [fillI_len]; exact hkn))
          have R1 := Lib.hid (HR.out.grown (grown_set (g := w3.heap.size) (World.grownBy.refl wr _) k (.int .i64 q)) (.inr (by simp [Value.ownBlock]; omega)) (fun k e => by cases e; exact Nat.le_refl _))
          rw [HS.out] at O1
          clear f0 d0 r0 r1 c0 f1 f2 HO HR
          generalize wr.setCell ⟨w3.heap.size, k, none⟩ (.int .i64 q) = W1 at *
          have f1 := R1.out.frozen (k * 2)
          have f2 := R1.out.frozen (k * 2 + 1)
          obtain ⟨_, off', e', _, r0, r1⟩ := (R1.out.recs rmOk).1.rm (fillR_get (n := n) (k := k) (f := fun i => leftF amount total (at0 l i)) hkn)
          cases e'
          rw [Nat.zero_add] at r0 r1
          go_upto_region 21 with fail
          have R2 := Lib.hid (rm_set R1.out (k, r) (by rw [fillR_len]; exact hkn))
          have O2 := Lib.hid (O1.out.grown (grown_set (g := w5.heap.size) (grown_set (g := w5.heap.size) (World.grownBy.refl W1 _) (k * 2) (.int .i64 (k : Int))) (k * 2 + 1) (.int .i64 r)) (.inr (by simp [Value.ownBlock]; omega)) (fun k e => by cases e; have := HO6sz; omega))
          rw [HSR.out] at R2
          clear r0 r1 f1 f2 O1 R1
          generalize (W1.setCell ⟨w5.heap.size, k * 2, none⟩ (.int .i64 (k : Int))).setCell ⟨w5.heap.size, k * 2 + 1, none⟩ (.int .i64 r) = W2 at *
          have d1 := own_cell O2.out (j := k) (by rw [fillI_len]; exact hkn)
          rw [fillI_at hkn, if_pos (by omega), HXQ.out] at d1
          go_wp2_with fail
          go_roundw
          case rel => first | exact ⟨k + 1, by omega, by go_num, by rw [HNX.out, Int.sub_sub], O2.out, R2.out⟩ | ((repeat apply Exists.intro); exact ⟨⟨k + 1, by omega, by go_num, by rw [HNX.out, Int.sub_sub], O2.out, R2.out⟩, rfl⟩)
          case measure => simp [intOf]; omega
        · obtain rfl : k = n := by omega
          rw [fillI_full] at HO
          rw [fillR_full] at HR
          have hbase : (List.range k).map (fun i => baseF amount total (at0 l i)) = baseL amount l := by
            unfold baseL; rw [HT.out, ← map_at0 l (baseF amount total), ← hln.out]
          have hrem : (List.range k).map (fun i => (i, leftF amount total (at0 l i))) = remL amount l := by
            unfold remL; rw [HT.out, ← hln.out]
          rw [hbase] at HO
          rw [hrem] at HR
          have hleft : amount - sumL ((l.take k).map (baseF amount total)) = leftN amount l := by
            rw [List.take_of_length_le (by have := hln.out; omega)]; unfold leftN baseL; rw [HT.out]
          rw [hleft]
          obtain ⟨hlb, hle⟩ := left_bnd (amount := amount) (by rw [HT.out]; exact htp : 0 < sumL l)
          obtain ⟨hlk, _⟩ := split_parts ha.out.1 (fun x hx => (hb.out x hx).1) (by rw [HT.out]; exact htp : 0 < sumL l)
          obtain ⟨L, hL⟩ : ∃ L : Nat, leftN amount l = (L : Int) := ⟨(leftN amount l).toNat, by omega⟩
          rw [hL] at hlk ⊢
          rw [Int.toNat_natCast] at hlk
          have HLL := Lib.hid hL
          have HRR := Lib.hid (HR.out.recs rmOk)
          have hlk' : L ≤ k := by have := hln.out; omega
          clear hbase hrem hleft hlb hle hL hlk
          generalize wr = w7 at *
          go_upto_region 24 with (go_at_call 23; ((with_reducible refine (sorted_any (remL amount l) _ k k _ HRR.out.1 (Lib.hid HRR.out.2) hn1 hn).mono ?_); rintro e w8 ⟨A8, c8, rfl, ho8⟩))
          obtain ⟨g, cap, e, hg1, hg2⟩ := ho8.form (by rw [(sortR_is _).2.2]; simp [remL]; have := hln.out; omega)
          injection e with e1 e2 e3
          have hc8 := own_cap ho8 (by omega)
          subst e1 e3
          have HS8 := Lib.hid ho8
          have HO8 := Lib.hid (HO.out.keep ho8.2)
          have hL0 : (0 : Int) ≤ (L : Int) := by omega
          have hLc : (L : Int) ≤ (c8 : Int) := by omega
          have hw7 := (HO.out.1.lt _ rfl).2
          clear ho8 e2 HR HRR HO
          go_wp2_with fail
          go_loopw [85] (fun i wr => ∃ (j : Nat), j ≤ L ∧ i = .int .i64 (j : Int) ∧ OwnR intR w3 wr (.slice (some ⟨w3.heap.size, 0, none⟩) k k) (bump (baseL amount l) (((sortR (remL amount l)).take j).map (·.1))) ∧ w8.grownBy wr (some w3.heap.size)) (fun i _ => L - (intOf i).toNat)
          case atStart => exact ⟨0, by omega, rfl, HO8.out, World.grownBy.refl w8 _⟩
          case round =>
            clear HO8
            obtain ⟨j, hj, rfl, hO, hG⟩ := hrel
            have HO := Lib.hid hO; have HG := Lib.hid hG
            clear hO hG
            by_cases hjL : j < L
            · have hrl : (sortR (remL amount l)).length = k := by rw [(sortR_is _).2.2]; simp [remL]; exact hln.out.symm
              have hok : (sortR (remL amount l))[j]? = some ((sortR (remL amount l))[j]'(by rw [hrl]; omega)) := List.getElem?_eq_getElem _
              generalize (sortR (remL amount l))[j]'(by rw [hrl]; omega) = r at hok
              have hri := sortR_mem (List.mem_of_getElem? hok)
              obtain ⟨_, off', e', _, c0, c1⟩ := (HS8.out.recs rmOk).1.rm hok
              cases e'
              rw [Nat.zero_add] at c0 c1
              have c0' := HG.out.cell c0 (by simp; omega)
              have c1' := HG.out.cell c1 (by simp; omega)
              have hnx := bump_next (b := baseL amount l) hok
              have hidx : ∀ i ∈ ((sortR (remL amount l)).take j).map (·.1), i < (baseL amount l).length := fun i hi => by
                obtain ⟨q, hq, rfl⟩ := List.mem_map.1 hi
                have := sortR_mem (List.mem_of_mem_take hq)
                simpa [baseL] using this
              have hb1 := bump_le _ _ r.1 hidx
              have hb2 := bump_ge _ _ r.1 hidx
              have hb3 : 0 ≤ at0 (baseL amount l) r.1 ∧ at0 (baseL amount l) r.1 ≤ 1000000000000000 := by
                have e : (baseL amount l)[r.1]? = some (baseF amount (sumL l) (at0 l r.1)) := by unfold baseL; rw [List.getElem?_map, get_at0 hri]; rfl
                rw [at0_get e]
                exact (base_bnd ha.out (hb.out _ (List.mem_of_getElem? (get_at0 hri))) (by rw [HT.out]; exact htp)).2.1
              rw [List.length_map, List.length_take] at hb1
              have hcl : (bump (baseL amount l) (((sortR (remL amount l)).take j).map (·.1))).length = k := by rw [bump_len]; simp [baseL]; exact hln.out.symm
              have HNX := Lib.hid hnx
              generalize bump (baseL amount l) (((sortR (remL amount l)).take j).map (·.1)) = cur at *
              obtain ⟨ri, rv⟩ := r
              (try dsimp only at *)
              have d0 := own_cell HO.out (j := ri) (by rw [hcl]; have := hln.out; omega)
              have f0 := HO.out.frozen ri
              have hw3r := (HO.out.1.lt _ rfl).2
              have O1 := Lib.hid ((own_set (j := ri) HO.out (at0 cur ri + 1) (by rw [hcl]; have := hln.out; omega)).keep ((Keeps.refl _).alloc (.cells #[.int .i64 (ri : Int), .int .i64 rv] 64)))
              have G1 := Lib.hid (grown_alloc (grown_set HG.out ri (.int .i64 (at0 cur ri + 1))) (.cells #[.int .i64 (ri : Int), .int .i64 rv] 64))
              rw [← HNX.out] at O1
              obtain ⟨y, hy⟩ : ∃ y, at0 cur ri = y := ⟨_, rfl⟩
              rw [hy] at d0 O1 G1 hb1 hb2
              have hyw : IntKind.i64.wrap (y + 1) = y + 1 := IntWalk.i64_in _ (by omega)
              have hri0 : (0 : Int) ≤ (ri : Int) := by omega
              have hrik : (ri : Int) < (k : Int) := by have := hln.out; omega
              have hji : (j : Int) < (L : Int) := by omega
              have hj0 : (0 : Int) ≤ (j : Int) := by omega
              have hjw : IntKind.i64.wrap ((j : Int) + 1) = (j : Int) + 1 := IntWalk.i64_in _ (by omega)
              clear c0 c1 hok hnx hidx hb1 hb2 hb3 HNX hy
              go_wp2_with fail
              go_roundw
              case rel => first | exact ⟨j + 1, by omega, by go_num, O1.out, G1.out⟩ | ((repeat apply Exists.intro); exact ⟨⟨j + 1, by omega, by go_num, O1.out, G1.out⟩, rfl⟩)
              case measure => simp [intOf]; omega
            · obtain rfl : j = L := by omega
              have e : bump (baseL amount l) (((sortR (remL amount l)).take j).map (·.1)) = splitF amount l := by unfold splitF; rw [HLL.out, Int.toNat_natCast]
              rw [e] at HO
              have hlen := (HO.out.recs intOk).2
              go_wp2_with fail
              go_ret2
              exact ⟨_, k, by rw [← hlen]; rfl, (HO.out.base HK.out).len hlen⟩
theorem split_yes (amount : Int) (l : List Int) (A : Option Addr) (n c : Nat) (w : World) (hl : RecIn intR w w.heap.size A l) (hln : Hid (n = l.length)) (hn : n ≤ 19) (ha : Hid (0 ≤ amount ∧ amount ≤ 1000000000)) (hb : Hid (∀ x ∈ l, 0 ≤ x ∧ x ≤ 1000000)) (ht : Hid (0 < sumL l)) :
    Calls Try.prog 6 #[.int .i64 amount, .slice A n c] w (IntsPost (splitF amount l) 0 w) :=
  (split_own amount l A n c w hl hln hn ha hb ht).mono fun _ _ ⟨A', c', e, h⟩ => ⟨A', c', e, (h.recs intOk).1, h.2⟩
end Go.Proofs.Ythkmpegpmpdhaaa
