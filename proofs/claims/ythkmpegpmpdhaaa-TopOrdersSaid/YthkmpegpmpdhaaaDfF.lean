import Derived.Test.YthkmpegpmpdhaaaDfE
import Derived.Test.YthkmpegpmpdhaaaRows
import Derived.WalkKit
import Derived.WalkSpells
import Derived.WalkLawsBesides
import Derived.Laws.EntriesVeiled
import Derived.ProofKit
import Derived.OpenShut
import Derived.Lib.Hide
import Derived.BigQuiet
import Derived.Deep.QuietTactic
import Derived.Below
import Derived.Laws.OwnMore
import Derived.Deep.AppendLies
import Derived.Deep.Draws
import Derived.Laws.Rows
import Derived.Maps.AppendAt
import Derived.RegionTactic
import Derived.OwnWalk
import Derived.Deep.RegionHeld3
namespace Go.Proofs.Ythkmpegpmpdhaaa.Df
open Go.ChangeShapes Go.WideShapes Go.ChangeAt Go.RowKit
set_option linter.unusedSimpArgs false
set_option linter.unusedVariables false
theorem best_of {l : List Bd} : ∀ (k : Nat) (x : Ky) (m : Int), bestF (l.take k) x = some m → ∃ b ∈ l, (b.f, b.t) = x ∧ b.m = m := by
  intro k
  induction k with
  | zero => intro x m h; simp [bestF] at h
  | succ k ih =>
    intro x m h
    cases hb : l[k]? with
    | none =>
      rw [List.getElem?_eq_none_iff] at hb
      rw [List.take_of_length_le (by omega), ← List.take_of_length_le (i := k) hb] at h
      exact ih x m h
    | some b =>
      rw [best_take hb] at h
      unfold strF at h
      by_cases e : x = (b.f, b.t)
      · rw [if_pos e] at h
        cases hg : bestF (l.take k) x with
        | none => rw [hg] at h; exact ⟨b, List.mem_of_getElem? hb, e.symm, by simpa using h⟩
        | some v =>
          rw [hg] at h
          simp only at h
          by_cases hlt : b.m < v
          · rw [if_pos hlt] at h; exact ⟨b, List.mem_of_getElem? hb, e.symm, by simpa using h⟩
          · rw [if_neg hlt] at h
            have : v = m := by simpa using h
            exact ih x m (by rw [hg, this])
      · rw [if_neg e] at h; exact ih x m h
theorem str_le {g : Ky → Option Int} {b : Bd} {x : Ky} {v : Int} (h : g x = some v) : ∃ m, strF g b x = some m ∧ m ≤ v := by
  unfold strF
  by_cases e : x = (b.f, b.t)
  · rw [if_pos e, h]
    by_cases hlt : b.m < v
    · exact ⟨b.m, by simp [hlt], by omega⟩
    · exact ⟨v, by simp [hlt], by omega⟩
  · rw [if_neg e]; exact ⟨v, h, by omega⟩
theorem str_new (g : Ky → Option Int) (b : Bd) : ∃ m, strF g b (b.f, b.t) = some m ∧ m ≤ b.m := by
  unfold strF
  rw [if_pos rfl]
  cases hg : g (b.f, b.t) with
  | none => exact ⟨b.m, rfl, by omega⟩
  | some v =>
    by_cases hlt : b.m < v
    · exact ⟨b.m, by simp [hlt], by omega⟩
    · exact ⟨v, by simp [hlt], by omega⟩
theorem best_to {l : List Bd} : ∀ (k i : Nat) (b : Bd), i < k → l[i]? = some b → ∃ m, bestF (l.take k) (b.f, b.t) = some m ∧ m ≤ b.m := by
  intro k
  induction k with
  | zero => intro i b hi; omega
  | succ k ih =>
    intro i b hi hb
    cases hk : l[k]? with
    | none =>
      rw [List.getElem?_eq_none_iff] at hk
      have := (List.getElem?_eq_some_iff.1 hb).1
      rw [List.take_of_length_le (by omega), ← List.take_of_length_le (i := k) hk]
      exact ih i b (by omega) hb
    | some c =>
      rw [best_take hk]
      by_cases e : i = k
      · subst e
        rw [hb] at hk; injection hk with hk; subst hk
        exact str_new _ _
      · obtain ⟨m, h1, h2⟩ := ih i b (by omega) hb
        obtain ⟨m', h3, h4⟩ := str_le (b := c) h1
        exact ⟨m', h3, by omega⟩
theorem valid_mem {n : Int} {l : List Bd} (h : validB n l = true) {b : Bd} (hb : b ∈ l) : (0 ≤ b.f ∧ b.f < n) ∧ (0 ≤ b.t ∧ b.t < n) ∧ -10000000 ≤ b.m ∧ b.m ≤ 10000000 := by
  simp only [validB, Bool.and_eq_true, List.all_eq_true] at h
  have := h.2 b hb
  simp only [okBd, inR, Bool.and_eq_true, decide_eq_true_eq] at this
  omega
theorem valid_n {n : Int} {l : List Bd} (h : validB n l = true) : 0 ≤ n ∧ n ≤ 40 := by
  simp only [validB, inR, Bool.and_eq_true, decide_eq_true_eq] at h; exact h.1
theorem gof_of {N : Nat} {l : List Bd} (h : validB (N : Int) l = true) : GOf (Edge l) N (gN (bestF l)) where
  of := fun i j m hg => by
    rw [← List.take_length (l := l)] at hg
    obtain ⟨b, hb, hk, hm⟩ := best_of _ _ _ hg
    exact ⟨b, hb, (Prod.mk.injEq .. ▸ hk).1, (Prod.mk.injEq .. ▸ hk).2, hm⟩
  to := fun i j c he => by
    obtain ⟨b, hb, h1, h2, h3⟩ := he
    obtain ⟨k, hk⟩ := List.getElem?_of_mem hb
    have hlt := (List.getElem?_eq_some_iff.1 hk).1
    obtain ⟨m, hm, hle⟩ := best_to l.length k b hlt hk
    rw [List.take_length, h1, h2] at hm
    exact ⟨m, hm, by omega⟩
  small := fun i j c he => by
    obtain ⟨b, hb, h1, h2, h3⟩ := he
    have := valid_mem h hb; omega
  range := fun i j c he => by
    obtain ⟨b, hb, h1, h2, h3⟩ := he
    have := valid_mem h hb; omega
/-- The matrix that the program reckons from. -/
def startF (l : List Bd) : Nat → Nat → Int := elF (gN (bestF l))
def closeM (N : Nat) (l : List Bd) : Nat → Nat → Int := itF (startF l) N
theorem close_least {N : Nat} {l : List Bd} (h : validB (N : Int) l = true) (hN : N ≤ 12) (hl : leastB N (startF l) = true) : Least (Edge l) N (closeM N l) := least_true (gof_of h) hN hl
theorem close_iff {N : Nat} {l : List Bd} (h : validB (N : Int) l = true) (hN : N ≤ 12) : leastB N (startF l) = true ↔ NoNeg (Edge l) := least_iff (gof_of h) hN
/-- A list of lists and a number, memory kept. -/
def RowsPost (ls : List (List Int)) (b : Int) (w : World) (e : Ending) (w' : World) : Prop := ∃ A c, e = .returned (.tuple #[.slice A ls.length c, .int .i64 b]) ∧ NumRows w' w'.heap.size A ls ∧ Keeps w w'
theorem rows_nil (b : Int) (w w' : World) (h : Keeps w w') : RowsPost [] b w (.returned (.tuple #[.slice none 0 0, .int .i64 b])) w' := ⟨none, 0, rfl, fun k l h => by simp at h, h⟩
/-- A list and a number, memory kept. -/
def IntsPost (l : List Int) (b : Int) (w : World) (e : Ending) (w' : World) : Prop := ∃ A c, e = .returned (.tuple #[.slice A l.length (l.length + c), .int .i64 b]) ∧ Nums .i64 w' w'.heap.size A l ∧ Keeps w w'
theorem ints_nil (b : Int) (w w' : World) (h : Keeps w w') : IntsPost [] b w (.returned (.tuple #[.slice none 0 0, .int .i64 b])) w' := ⟨none, 0, rfl, fun k l h => by simp at h, h⟩
theorem well_is (n : Int) (l : List Bd) (A : Option Addr) (m c : Nat) (w : World) (hl : Bnds w w.heap.size A l) (hn : l.length ≤ 400) (hlm : Hid (m = l.length)) (r : Bool) (hr : Hid (validB n l = r)) :
    Calls Try.prog 44 #[.int .i64 n, .slice A m c] w (BoolPost r w) := well_any n l A m c w hl hn hlm.out r hr.out
theorem collect_is (l : List Bd) (A : Option Addr) (n c : Nat) (w : World) (hl : Bnds w w.heap.size A l) (hn : l.length ≤ 400) (hln : Hid (n = l.length)) : Calls Try.prog 46 #[.slice A n c] w (ColPost (bestF l) w) := collect_any l A n c w hl (by omega) hln.out
set_option maxHeartbeats 1000000 in
theorem close_bad (n : Int) (l : List Bd) (A : Option Addr) (m c : Nat) (w : World) (hl : Bnds w w.heap.size A l) (hn : l.length ≤ 400) (hlm : Hid (m = l.length)) (h : Hid (validB n l = false)) : Calls Try.prog 19 #[.int .i64 n, .slice A m c] w (RowsPost [] 1 w) := by
  go_enter Try.func19, Try.ntmps19
  go_wp2_with (go_at_call 44; (with_reducible refine (well_is n l A m c _ hl hn hlm false h).mono ?_); rintro e w1 ⟨rfl, hk1⟩)
  go_ret2
  exact rows_nil _ _ _ hk1
set_option maxHeartbeats 1000000 in
theorem close_ok (N : Nat) (l : List Bd) (A : Option Addr) (m c : Nat) (w : World) (hl : Bnds w w.heap.size A l) (hn : l.length ≤ 400) (hlm : Hid (m = l.length)) (h : validB (N : Int) l = true) (hN : N ≤ 12) :
    Calls Try.prog 19 #[.int .i64 (N : Int), .slice A m c] w (if leastB N (startF l) = true then RowsPost (matF N (closeM N l)) 0 w else RowsPost [] 240 w) := by
  have H := Lib.hid h
  have HB := Lib.hid (el_bnd (gof_of h))
  have HL := Lib.hid hl
  have HLM := Lib.hid (matF_len N (closeM N l))
  clear h hl
  cases hb : leastB N (startF l)
  · rw [if_neg (by simp)]
    have HF := Lib.hid hb; clear hb
    go_enter Try.func19, Try.ntmps19
    go_wp2_with (first | (go_at_call 44; (with_reducible refine (well_is N l A m c _ HL.out hn hlm true H).mono ?_); rintro e w1 ⟨rfl, hk1⟩) | (go_at_call 46; (with_reducible refine (collect_is l A m c _ (HL.out.keep hk1) hn hlm).mono ?_); rintro e w2 ⟨r, rfl, hr, hm, hk2⟩))
    have HM := Lib.hid hm; have K2 := Lib.hid (hk1.trans hk2)
    clear hm hk1 hk2 hr
    refine (least_any N r (bestF l) _ HM.out hN (startF l) rfl HB.out).mono ?_
    intro e w3 h3
    unfold LeastPost at h3
    rw [if_neg (by simp [HF.out])] at h3
    obtain ⟨A3, m3, c3, rfl, hk3⟩ := h3
    go_wp2_with fail
    go_ret2
    exact rows_nil _ _ _ (K2.out.trans hk3)
  · rw [if_pos rfl]
    have HF := Lib.hid hb; clear hb
    go_enter Try.func19, Try.ntmps19
    go_wp2_with (first | (go_at_call 44; (with_reducible refine (well_is N l A m c _ HL.out hn hlm true H).mono ?_); rintro e w1 ⟨rfl, hk1⟩) | (go_at_call 46; (with_reducible refine (collect_is l A m c _ (HL.out.keep hk1) hn hlm).mono ?_); rintro e w2 ⟨r, rfl, hr, hm, hk2⟩))
    have HM := Lib.hid hm; have K2 := Lib.hid (hk1.trans hk2)
    clear hm hk1 hk2 hr
    refine (least_any N r (bestF l) _ HM.out hN (startF l) rfl HB.out).mono ?_
    intro e w3 h3
    unfold LeastPost at h3
    rw [if_pos HF.out] at h3
    obtain ⟨A3, c3, rfl, hn3, hk3⟩ := h3
    have N3 := Lib.hid hn3; have K3 := Lib.hid (K2.out.trans hk3)
    clear hn3 hk3
    go_wp2_with fail
    go_ret2
    exact ⟨A3, c3, by rw [HLM.out]; rfl, N3.out, K3.out⟩
def extraL (N : Nat) (most : Int) : List Bd := (List.range (N - 1)).map fun (i : Nat) => (⟨0, (i : Int) + 1, most⟩ : Bd)
theorem extra_len (N : Nat) (most : Int) : (extraL N most).length = N - 1 := by simp [extraL]
theorem extra_at {N k : Nat} {most : Int} (h : k < N - 1) : (extraL N most)[k]? = some ⟨0, (k : Int) + 1, most⟩ := by simp [extraL, h]
theorem extra_take {N k : Nat} {most : Int} (l : List Bd) (h : k < N - 1) : bestF (l ++ (extraL N most).take (k + 1)) = strF (bestF (l ++ (extraL N most).take k)) ⟨0, (k : Int) + 1, most⟩ := by
  rw [List.take_add_one, extra_at h]
  unfold bestF
  simp [List.foldl_append]
theorem extra_valid {N : Nat} {most : Int} {l : List Bd} (h : validB (N : Int) l = true) (hN : 1 ≤ N) (hm : inR (-10000000) 10000000 most = true) : validB (N : Int) (l ++ extraL N most) = true := by
  simp only [validB, Bool.and_eq_true, List.all_eq_true] at h ⊢
  refine ⟨h.1, fun b hb => ?_⟩
  rcases List.mem_append.1 hb with hb | hb
  · exact h.2 b hb
  · simp only [extraL, List.mem_map, List.mem_range] at hb
    obtain ⟨i, hi, rfl⟩ := hb
    simp only [okBd, inR, Bool.and_eq_true, decide_eq_true_eq] at hm ⊢
    omega
def row0 (N : Nat) (d : Nat → Nat → Int) : List Int := (List.range N).map fun j => d 0 j
theorem row0_len (N : Nat) (d : Nat → Nat → Int) : (row0 N d).length = N := by simp [row0]
set_option maxHeartbeats 2000000 in
theorem solve_bad (n most : Int) (l : List Bd) (A : Option Addr) (m c : Nat) (w : World) (hl : Bnds w w.heap.size A l) (hn : l.length ≤ 400) (hlm : Hid (m = l.length)) (h : (validB n l && inR (-10000000) 10000000 most) = false) : Calls Try.prog 20 #[.int .i64 n, .int .i64 most, .slice A m c] w (IntsPost [] 1 w) := by
  cases hv : validB n l
  · have HV := Lib.hid hv; clear hv h
    go_enter Try.func20, Try.ntmps20
    go_wp2_with (go_at_call 44; (with_reducible refine (well_is n l A m c _ hl hn hlm false HV).mono ?_); rintro e w1 ⟨rfl, hk1⟩)
    go_ret2
    exact ints_nil _ _ _ hk1
  · have hm : inR (-10000000) 10000000 most = false := by rw [hv] at h; exact h
    have HV := Lib.hid hv; have HI := Lib.hid hm; clear hv h hm
    go_enter Try.func20, Try.ntmps20
    go_wp2_with (first | (go_at_call 44; (with_reducible refine (well_is n l A m c _ hl hn hlm true HV).mono ?_); rintro e w1 ⟨rfl, hk1⟩; have lit := Blk.new w1 3 #[.int .i64 most]; have kl : Keeps w1 (w1.alloc (.cells #[.int .i64 most] 3)) := (Keeps.refl w1).alloc _) | (go_at_call 47; (with_reducible refine (within_1 _ _ most _ _ lit false HI).mono ?_); rintro e w2 ⟨rfl, hk2⟩))
    go_ret2
    exact ints_nil _ _ _ ((hk1.trans kl).trans hk2)
set_option maxHeartbeats 2000000 in
theorem solve_zero (most : Int) (l : List Bd) (A : Option Addr) (m c : Nat) (w : World) (hl : Bnds w w.heap.size A l) (hn : l.length ≤ 400) (hlm : Hid (m = l.length)) (h : Hid (validB 0 l = true)) (hi : Hid (inR (-10000000) 10000000 most = true)) : Calls Try.prog 20 #[.int .i64 0, .int .i64 most, .slice A m c] w (IntsPost [] 0 w) := by
  go_enter Try.func20, Try.ntmps20
  go_wp2_with (first | (go_at_call 44; (with_reducible refine (well_is 0 l A m c _ hl hn hlm true h).mono ?_); rintro e w1 ⟨rfl, hk1⟩; have lit := Blk.new w1 3 #[.int .i64 most]; have kl : Keeps w1 (w1.alloc (.cells #[.int .i64 most] 3)) := (Keeps.refl w1).alloc _) | (go_at_call 47; (with_reducible refine (within_1 _ _ most _ _ lit true hi).mono ?_); rintro e w2 ⟨rfl, hk2⟩))
  go_ret2
  exact ints_nil _ _ _ ((hk1.trans kl).trans hk2)
theorem strengthen_is (r : Nat) (g : Ky → Option Int) (f t m : Int) (w : World) (h : MapTo w r g) : Calls Try.prog 48 #[.map (some r), .agg #[.int .i64 f, .int .i64 t, .int .i64 m]] w (StrPost r (strF g ⟨f, t, m⟩) w) := strengthen_any r g ⟨f, t, m⟩ w h
def solveM (N : Nat) (most : Int) (l : List Bd) : Nat → Nat → Int := closeM N (l ++ extraL N most)
set_option maxHeartbeats 4000000 in
set_option maxRecDepth 100000 in
theorem solve_ok (N : Nat) (most : Int) (l : List Bd) (A : Option Addr) (m c : Nat) (w : World) (hl : Bnds w w.heap.size A l) (hn : l.length ≤ 400) (hlm : Hid (m = l.length)) (h : validB (N : Int) l = true) (hi : inR (-10000000) 10000000 most = true) (hN1 : 1 ≤ N) (hN : N ≤ 12) :
    Calls Try.prog 20 #[.int .i64 (N : Int), .int .i64 most, .slice A m c] w (if leastB N (startF (l ++ extraL N most)) = true then IntsPost (row0 N (solveM N most l)) 0 w else IntsPost [] 240 w) := by
  have HB := Lib.hid (el_bnd (gof_of (extra_valid h hN1 hi)))
  have HL := Lib.hid hl
  have H := Lib.hid h; have HI := Lib.hid hi
  have HLEN := Lib.hid (row0_len N (solveM N most l))
  have z1 : ((N : Int) == 0) = false := by simp; omega
  have z2 : (N == 0) = false := by simp; omega
  have hnw : IntKind.i64.wrap ((N : Int) - 1) = (N : Int) - 1 := IntWalk.i64_in _ (by omega)
  have hNi : (0 : Int) < (N : Int) := by omega
  clear h hi hl
  have post : ∀ (P : Ending → World → Prop), P = (if leastB N (startF (l ++ extraL N most)) = true then IntsPost (row0 N (solveM N most l)) 0 w else IntsPost [] 240 w) → Calls Try.prog 20 #[.int .i64 (N : Int), .int .i64 most, .slice A m c] w P := by
    intro P hP
    have HP := Lib.hid hP; clear hP
    go_enter Try.func20, Try.ntmps20
    go_wp2_with (first | (go_at_call 44; (with_reducible refine (well_is N l A m c _ HL.out hn hlm true H).mono ?_); rintro e w1 ⟨rfl, hk1⟩; have lit := Blk.new w1 3 #[.int .i64 most]; have kl : Keeps w1 (w1.alloc (.cells #[.int .i64 most] 3)) := (Keeps.refl w1).alloc _) | (go_at_call 47; (with_reducible refine (within_1 _ _ most _ _ lit true HI).mono ?_); rintro e w2 ⟨rfl, hk2⟩) | (go_at_call 46; (with_reducible refine (collect_is l A m c _ (HL.out.keep ((hk1.trans kl).trans hk2)) hn hlm).mono ?_); rintro e w3 ⟨r, rfl, hr, hm, hk3⟩))
    have HM := Lib.hid hm; have K3 := Lib.hid (((hk1.trans kl).trans hk2).trans hk3)
    have hrw : w.heap.size ≤ r := by have := ((hk1.trans kl).trans hk2).size; omega
    clear hm hk1 kl hk2 hk3 lit hr
    go_loopw [9, 28] (fun _ i wr => ∃ k : Nat, k + 1 ≤ N ∧ i = .int .i64 (k : Int) ∧ MapTo wr r (bestF (l ++ (extraL N most).take k)) ∧ Keeps w wr) (fun _ i _ => N - (intOf i).toNat)
    case atStart => exact ⟨0, by omega, rfl, by simpa using HM.out, K3.out⟩
    case round =>
      clear HM K3
      obtain ⟨k, hk, rfl, hM, hK⟩ := hrel
      have HM := Lib.hid hM; have HK := Lib.hid hK
      clear hM hK
      by_cases hkn : k < N - 1
      · have hki : (k : Int) < (N : Int) - 1 := by omega
        have hkw : IntKind.i64.wrap ((k : Int) + 1) = (k : Int) + 1 := IntWalk.i64_in _ (by omega)
        have HT := Lib.hid (extra_take (most := most) l hkn)
        go_wp2_with (go_at_call 48; (with_reducible refine (strengthen_is r _ 0 ((k : Int) + 1) most _ HM.out).mono ?_); rintro e w4 ⟨rfl, hm4, hg4⟩)
        have HM4 := Lib.hid hm4; have HK4 := Lib.hid (grown_keepsr HK.out hg4 hrw)
        clear hm4 hg4
        go_roundw
        case rel => exact ⟨k + 1, by omega, by go_num, by rw [HT.out]; exact HM4.out, HK4.out⟩
        case measure => simp [intOf]; omega
      · have hki : ¬ (k : Int) < (N : Int) - 1 := by omega
        have hki' : decide ((k : Int) < (N : Int) - 1) = false := by simp; omega
        have HE := Lib.hid (take_all (l := extraL N most) (k := k) (by rw [extra_len]; omega))
        rw [HE.out] at HM
        go_wp2_with fail
        refine (least_any N r (bestF (l ++ extraL N most)) _ HM.out hN (startF (l ++ extraL N most)) rfl HB.out).mono ?_
        intro e w5 h5
        unfold LeastPost at h5
        by_cases hb : leastB N (startF (l ++ extraL N most)) = true
        · rw [if_pos hb] at h5
          have HPP := HP.out
          rw [if_pos hb] at HPP
          have HQ := Lib.hid HPP; clear HPP hb
          obtain ⟨A5, c5, rfl, hn5, hk5⟩ := h5
          obtain ⟨b, off, A6, c6, rfl, hb6, d0, hx⟩ := hn5 0 _ (matF_row (by omega))
          simp only [List.length_map, List.length_range, Nat.add_zero] at d0
          have HX := Lib.hid hx; have K5 := Lib.hid (HK.out.trans hk5)
          clear hn5 hx hk5
          go_wp2_with fail
          rw [HQ.out]
          exact ⟨A6, _, by rw [HLEN.out]; rfl, HX.out, K5.out⟩
        · rw [if_neg hb] at h5
          have HPP := HP.out
          rw [if_neg hb] at HPP
          have HQ := Lib.hid HPP; clear HPP hb
          obtain ⟨A5, m5, c5, rfl, hk5⟩ := h5
          have K5 := Lib.hid (HK.out.trans hk5)
          clear hk5
          go_wp2_with fail
          rw [HQ.out]
          exact ints_nil _ _ _ K5.out
  exact post _ rfl
end Go.Proofs.Ythkmpegpmpdhaaa.Df
