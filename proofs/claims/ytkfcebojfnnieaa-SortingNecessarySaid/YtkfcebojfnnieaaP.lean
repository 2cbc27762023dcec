import Derived.Test.YtkfcebojfnnieaaM
import Derived.Test.YtkfcebojfnnieaaRows
import Derived.WalkKit
import Derived.WalkSpells
import Derived.WalkLawsBesides
import Derived.Laws.EntriesVeiled
import Derived.ProofKit
import Derived.OpenShut
import Derived.Lib.Hide
import Derived.BigQuiet
import Derived.Deep.QuietTactic
import Derived.Below
import Derived.Laws.OwnMore
import Derived.Deep.AppendLies
import Derived.Deep.Draws
import Derived.Laws.Rows
import Derived.Maps.AppendAt
import Derived.RegionTactic
import Derived.OwnWalk
import Derived.Deep.RegionHeld3
namespace Go.Proofs.Ytkfcebojfnnieaa
open Go.ChangeShapes Go.WideShapes Go.ChangeAt Go.RowKit
set_option linter.unusedSimpArgs false
set_option linter.unusedVariables false
structure RG (w wr : World) (R : Nat → List Int) (n r : Nat) (v : Value) (vs : List Value) : Prop where
  own : wr.ownsRow w.heap.size 22 1 v r vs
  rows : ∀ j, j < r → ∃ u, vs[j]? = some u ∧ wr.ownsRow w.heap.size 3 1 u n (intCells .i64 (R j))
  keeps : Keeps w wr
theorem RG.start (w : World) (R : Nat → List Int) (n : Nat) : RG w w R n 0 (.slice none 0 0) [] := ⟨World.ownsRow_nil _ _ _ _, fun j hj => absurd hj (Nat.not_lt_zero _), Keeps.refl _⟩
theorem RG.len {w wr : World} {R : Nat → List Int} {n r : Nat} {v : Value} {vs : List Value} (h : RG w wr R n r v vs) : vs.length = r := by have := h.own.1; simpa using this
theorem RG.step {w wr wi w5 : World} {R : Nat → List Int} {n r : Nat} {v v' u : Value} {vs : List Value} (h : RG w wr R n r v vs) (hk : Keeps wr wi) (hu : wi.ownsRow wr.heap.size 3 1 u n (intCells .i64 (R r)))
    (ho : w5.ownsRow w.heap.size 22 1 v' (r + 1) (vs ++ [u])) (hg : (wi.alloc (.cells #[u] 22)).grownBy w5 v.ownBlock) : RG w w5 R n (r + 1) v' (vs ++ [u]) := by
  have hka : Keeps wi (wi.alloc (.cells #[u] 22)) := (Keeps.refl wi).alloc _
  have hva := own_keeps (own_keeps h.own hk) hka
  refine ⟨ho, fun j hj => ?_, grown_keeps ((h.keeps.trans hk).trans hka) hg (fun k e => (own_lt h.own e).1)⟩
  by_cases e : j < r
  · obtain ⟨x, hx, hox⟩ := h.rows j e
    refine ⟨x, by rw [List.getElem?_append_left (by rw [h.len]; exact e)]; exact hx, ?_⟩
    exact own_grown (own_keeps (own_keeps hox hk) hka) hg (fun k hk1 hk2 => own_own_ne (own_keeps (own_keeps hox hk) hka) hva (by decide) k hk1 hk2)
  · obtain rfl : j = r := by omega
    refine ⟨u, by rw [List.getElem?_append_right (by rw [h.len]; exact Nat.le_refl _), h.len]; simp, ?_⟩
    have hu' := own_keeps (own_weak hu h.keeps.size) hka
    exact own_grown hu' hg (fun k hk1 hk2 => own_own_ne hu' hva (by decide) k hk1 hk2)
theorem RG.rowsN {w wr : World} {R : Nat → List Int} {n k : Nat} {A : Option Addr} {c : Nat} {vs : List Value} (h : RG w wr R n k (.slice A k c) vs) (hR : ∀ j, j < k → (R j).length = n) : NumRows wr wr.heap.size A ((List.range k).map R) := by
  intro j l hl
  have hj : j < k := by have := (List.getElem?_eq_some_iff.1 hl).1; simpa using this
  have hl' : l = R j := by simpa [hj] using hl.symm
  subst hl'
  obtain ⟨u, hu, hou⟩ := h.rows j hj
  obtain ⟨A', c', rfl⟩ := own_slice hou
  obtain ⟨ad, he, hb, hc⟩ := (Reads.of_own h.own).2 (by omega)
  rcases h.own.2 with ⟨h0, h1⟩ | ⟨g, cap, cur, hv, _, hgg, _⟩
  · omega
  injection hv with hA
  rw [hA] at he
  injection he with he
  subst he
  have hcj := hc j _ hu
  have fix : (⟨g, 0, none⟩ : Addr).add j = ⟨g, 0 + j, none⟩ := by unfold Addr.add; split <;> simp_all
  rw [fix] at hcj
  exact ⟨g, 0, A', c', hA, hb, by rw [hcj, hR j hj], Nums.of_own hou (hR j hj).symm⟩
set_option maxHeartbeats 1000000 in
theorem small_own (l : List Int) (A : Option Addr) (m c : Nat) (n : Nat) (w : World) (hl : Nums .u16 w w.heap.size A l) (hr : ∀ x ∈ l, 0 ≤ x ∧ x ≤ 65535) (hn : l.length ≤ 1000000000000) (hln : m = l.length) (h1 : 1 ≤ n) (hn2 : n ≤ 1000000) :
    Calls Try.prog 24 #[.slice A m c, .int .i64 (n : Int)] w (fun e w' => ∃ v, e = .returned v ∧ w'.ownsRow w.heap.size 3 1 v m (intCells .i64 (smallF l n)) ∧ Keeps w w') := by
  obtain ⟨i0, hi0, hz0, hz1, hz2⟩ := info3
  rw [← hln] at hn
  have HN := Lib.hid hln; clear hln
  have HR := Lib.hid hr; clear hr
  go_enter Try.func24, Try.ntmps24
  go_wp2
  have hown0 := World.ownsRow_lit (base := w.heap.size) (e := 3) (size := 1) w #[] 0 (Nat.le_refl _) (by unfold maxLen; omega) rfl
  have hk0 : Keeps w (w.alloc (.cells #[] 3)) := (Keeps.refl w).alloc _
  go_loopw [5, 6] (fun v i wr => ∃ k : Nat, k ≤ m ∧ i = .int .i64 (k : Int) ∧ wr.ownsRow w.heap.size 3 1 v k (intCells .i64 (smallF (l.take k) n)) ∧ Keeps w wr) (fun _ i _ => m - (intOf i).toNat)
  case atStart => exact ⟨0, by omega, rfl, hown0, hk0⟩
  case round =>
    clear hown0 hk0
    obtain ⟨k, hk, rfl, hown, hK⟩ := hrel
    by_cases hkn : k < m
    · have hok : l[k]? = some (l[k]'(by rw [← HN.out]; exact hkn)) := List.getElem?_eq_getElem _
      generalize l[k]'(by rw [← HN.out]; exact hkn) = x at hok
      obtain ⟨b, off, rfl, hb, c0⟩ := (hl.keep hK) k x hok
      have hx := HR.out x (List.mem_of_getElem? hok)
      have hx0 := hx.1
      have hx1 := hx.2
      have HO := Lib.hid hok; clear hok hx
      have hki : (k : Int) < (m : Int) := by omega
      have hk00 : (0 : Int) ≤ (k : Int) := by omega
      have hw1 : IntKind.i64.wrap ((k : Int) + 1) = (k : Int) + 1 := IntWalk.i64_in _ (by omega)
      have hw3 : IntKind.i64.wrap x = x := IntWalk.i64_in _ (by omega)
      have hn0 : (1 : Int) ≤ (n : Int) := by omega
      have nn := hown.alloc (.cells #[Value.int .i64 (x % (n : Int))] 3)
      have G1 := Lib.hid (World.news_of_block (cs := #[.int .i64 (x % (n : Int))]) (t := 3) (fr := (0, 0)) (heap_alloc_new wr (.cells #[.int .i64 (x % (n : Int))] 3)))
      have G2 := Lib.hid (show ∀ u ∈ [Value.int .i64 (x % (n : Int))], u.oneCell' = true by simp [Value.oneCell'])
      have g3 : k + 1 ≤ maxLen := by unfold maxLen; omega
      have g4 : (k + 1) * 8 ≤ 140737488355328 := by omega
      have hK4 := hK.alloc (.cells #[Value.int .i64 (x % (n : Int))] 3)
      have G5 := Lib.hid hK4.size
      have HS := Lib.hid (small_take (n := n) HO.out)
      go_wp2_with (at_builtin; refine (wpList_append_own _ rfl (.tmp 14) (.tmp 22) 22 rfl w.heap.size 3 i0 (.int .i64 0) 1 8 Try.underlying22 hi0 hz0 hz1 hz2 rfl (by decide) _ _ _ rfl nn ⟨wr.heap.size, 0, none⟩ 1 1 [.int .i64 (x % (n : Int))] rfl rfl G1.out G2.out g3 g4 G5.out ?_); intro v' w5 hown5 hgrow _)
      have hK5 : Keeps w w5 := grown_keeps hK4 hgrow (fun k hk => (own_lt nn hk).1)
      go_roundw
      case rel => exact ⟨k + 1, by omega, by go_num, by rw [HS.out, intCells_append]; exact hown5, hK5⟩
      case measure => simp [intOf]; omega
    · obtain rfl : k = m := by omega
      have E := Lib.hid (take_all (l := l) (k := k) (by rw [← HN.out]; omega))
      go_wp2
      go_ret
      rw [E.out] at hown
      exact ⟨_, rfl, hown, hK⟩
theorem Nums.take {ik : IntKind} {w : World} {B : Nat} {A : Option Addr} {l : List Int} (h : Nums ik w B A l) (k : Nat) : Nums ik w B A (l.take k) := fun i x hx => by
  have hi : i < k := by
    have := (List.getElem?_eq_some_iff.1 hx).1
    simp at this; omega
  rw [List.getElem?_take_of_lt hi] at hx
  exact h i x hx
def colF (R : Nat → List Int) (t : Nat) (x : Nat) : Int := at' (R t) (x : Int)
def sameF (R : Nat → List Int) (x y : Nat) : Nat → Bool
  | 0 => true
  | t + 1 => sameF R x y t && (colF R t x == colF R t y)
theorem same_spec {R : Nat → List Int} {x y k : Nat} (h : sameF R x y k = true) : ∀ t, t < k → colF R t x = colF R t y := by
  induction k with
  | zero => intro t ht; omega
  | succ k ih =>
    simp only [sameF, Bool.and_eq_true, beq_iff_eq] at h
    intro t ht
    by_cases e : t = k
    · subst e; exact h.2
    · exact ih h.1 t (by omega)
theorem same_of {R : Nat → List Int} {x y : Nat} : ∀ {k : Nat}, (∀ t, t < k → colF R t x = colF R t y) → sameF R x y k = true
  | 0, _ => rfl
  | k + 1, h => by
    simp only [sameF, Bool.and_eq_true, beq_iff_eq]
    exact ⟨same_of fun t ht => h t (by omega), h k (by omega)⟩
theorem col_bounds {R : Nat → List Int} {P n k : Nat} (hR : ∀ j, j < k → (R j).length = n ∧ ∀ x ∈ R j, 0 ≤ x ∧ x < (P : Int)) {t x : Nat} (ht : t < k) (hx : x < n) : 0 ≤ colF R t x ∧ colF R t x < (P : Int) :=
  at_row_ok (hR t ht) (by omega) (by omega)
theorem there_is {R : Nat → List Int} {P n k : Nat} (hR : ∀ j, j < k → (R j).length = n ∧ ∀ x ∈ R j, 0 ≤ x ∧ x < (P : Int)) (hn : pw P k < n) : ∃ x y, x < y ∧ y < n ∧ sameF R x y k = true := by
  obtain ⟨i, j, hij, hj, e⟩ := pigeon (pw P k) n (fun x => codeF P (fun t => (colF R t x).toNat) k) (fun i hi => codeF_lt fun t ht => by
    have := col_bounds hR ht hi; omega) hn
  refine ⟨i, j, hij, hj, same_of fun t ht => ?_⟩
  have h1 := codeF_inj (P := P) (fun t ht => by have := col_bounds hR ht (show i < n by omega); omega) (fun t ht => by have := col_bounds hR ht hj; omega) e t ht
  have h2 := col_bounds hR ht (show i < n by omega)
  have h3 := col_bounds hR ht hj
  omega
theorem run_pair {R : Nat → List Int} {P n k x y : Nat} (hR : ∀ j, j < k → (R j).length = n ∧ ∀ x ∈ R j, 0 ≤ x ∧ x < (P : Int)) (hx : x < n) (hy : y < n) (hs : sameF R x y k = true) : runF P ((List.range k).map R) [(y : Int), (x : Int), (y : Int), (x : Int)] = [0, 1, 2, 3] := by
  rw [show ([0, 1, 2, 3] : List Int) = itemsF 4 by decide]
  refine runF_same ?_
  intro r hr
  simp only [List.mem_map, List.mem_range] at hr
  obtain ⟨t, ht, rfl⟩ := hr
  have hb := col_bounds hR ht hx
  refine ⟨colF R t x, hb.1, hb.2, ?_⟩
  intro i hi
  have hc := same_spec hs t ht
  simp only [List.length_cons, List.length_nil] at hi
  rcases (by omega : i = 0 ∨ i = 1 ∨ i = 2 ∨ i = 3) with rfl | rfl | rfl | rfl
  · exact hc.symm
  · rfl
  · exact hc.symm
  · rfl
theorem okRun_map {R : Nat → List Int} {P n k : Nat} {d : List Int} (hR : ∀ j, j < k → (R j).length = n ∧ ∀ x ∈ R j, 0 ≤ x ∧ x < (P : Int)) (q1 : 2 ≤ P) (q2 : P ≤ 64) (q3 : 1 ≤ k) (q4 : k ≤ 4) (q5 : n ≤ 2000) (hd : ∀ x ∈ d, 0 ≤ x ∧ x < (n : Int)) : okRun (P : Int) ((List.range k).map R) d = true := by
  have hw : wid ((List.range k).map R) = n := by
    have : ((List.range k).map R)[0]? = some (R 0) := by simp [show 0 < k by omega]
    rw [wid_of this]; exact (hR 0 (by omega)).1
  simp only [okRun, formedB, hw, machB, List.length_map, List.length_range, Bool.and_eq_true, decide_eq_true_eq]
  refine ⟨⟨⟨by omega, by omega⟩, ⟨q3, q4⟩, q5, ?_⟩, row_of hd⟩
  rw [List.all_eq_true]
  intro r hr
  simp only [List.mem_map, List.mem_range] at hr
  obtain ⟨j, hj, rfl⟩ := hr
  simp only [okRow, Bool.and_eq_true, decide_eq_true_eq]
  exact ⟨(hR j hj).1, row_of (hR j hj).2⟩
set_option maxHeartbeats 6000000 in
set_option maxRecDepth 100000 in
theorem necessary_in (P k n m : Nat) (a0 a1 : Int) (l : List Int) (A : Option Addr) (c : Nat) (w : World) (h0 : 0 ≤ a0) (h0' : a0 ≤ 255) (h1 : 0 ≤ a1) (h1' : a1 ≤ 255) (o : U16s w w.heap.size A l) (hm : m = l.length) (hc : m ≤ c) (hc2 : c ≤ 9223372036854775807)
    (eP : 2 + a0 % 5 = (P : Int)) (ek : 1 + a1 % 4 = (k : Int)) (en : (m : Int) / (k : Int) = (n : Int)) (hkn : k * n ≤ m) (hn40 : n ≤ 40) (hpn : pw P k < n) : Calls Try.prog 8 #[.int .u8 a0, .int .u8 a1, .slice A m c] w (BoolPost true w) := by
  obtain ⟨j0, hj0, hy0, hy1, hy2⟩ := info22
  have q1 : 2 ≤ P := by omega
  have q2 : P ≤ 64 := by omega
  have q3 : 1 ≤ k := by omega
  have q4 : k ≤ 4 := by omega
  have q3i : (1 : Int) ≤ (k : Int) := by omega
  have hn1 : 1 ≤ n := by omega
  have t1 : decide (40 < n) = false := by simp; omega
  have t1' : decide ((40 : Int) < (n : Int)) = false := by simp; omega
  obtain ⟨pk, hpk⟩ : ∃ p, pw P k = p := ⟨_, rfl⟩
  have HPK := Lib.hid hpk
  have t2 : decide (n ≤ pk) = false := by simp; omega
  have t2' : decide ((n : Int) ≤ (pk : Int)) = false := by simp; omega
  obtain ⟨R, hRdef⟩ : ∃ R : Nat → List Int, R = fun j => smallF ((l.drop (j * n)).take n) P := ⟨_, rfl⟩
  have hlen : ∀ j, j < k → ((l.drop (j * n)).take n).length = n := by
    intro j hj
    have : (j + 1) * n ≤ k * n := Nat.mul_le_mul_right n hj
    rw [Nat.add_mul] at this
    simp; omega
  have hR : ∀ j, j < k → (R j).length = n ∧ ∀ x ∈ R j, 0 ≤ x ∧ x < (P : Int) := by
    intro j hj
    subst hRdef
    exact ⟨by rw [small_len]; exact hlen j hj, small_bounds (by omega)⟩
  have HR := Lib.hid hR; have HDEF := Lib.hid hRdef; have HLEN := Lib.hid hlen
  have HTH := Lib.hid (there_is hR hpn)
  have HM := Lib.hid hm; have O := Lib.hid o; have HKN := Lib.hid hkn
  obtain ⟨b, off, hA, -, -⟩ : ∃ b off, A = some ⟨b, off, none⟩ ∧ True ∧ True := by
    have hpos : 0 < l.length := by
      have : 1 * 1 ≤ k * n := Nat.mul_le_mul q3 hn1
      omega
    obtain ⟨b, off, e, _, _⟩ := o.1 0 _ (List.getElem?_eq_getElem hpos)
    exact ⟨b, off, e, trivial, trivial⟩
  subst hA
  clear hR hRdef hlen hpk hpn hm o hkn
  go_enter Try.func8, Try.ntmps8
  go_wp2_with (first | (go_at_call 11; (with_reducible refine (head_any _).mono ?_); rintro e w1 ⟨rfl, hk1⟩) | (go_at_call 27; (with_reducible refine (rpower_any P k _ q2 q4 pk HPK.out).mono ?_); rintro e w2 ⟨rfl, rfl⟩))
  have K1 := Lib.hid hk1; clear hk1
  go_loopw [11, 12] (fun v i wr => ∃ (j : Nat) (vs : List Value), j ≤ k ∧ i = .int .i64 (j : Int) ∧ RG w1 wr R n j v vs) (fun _ i _ => k - (intOf i).toNat)
  case atStart => exact ⟨0, [], by omega, rfl, RG.start _ _ _⟩
  case round =>
    obtain ⟨j, vs, hj, rfl, hG⟩ := hrel
    have HG := Lib.hid hG; clear hG
    by_cases hjk : j < k
    · obtain ⟨p, hp⟩ : ∃ p, j * n = p := ⟨_, rfl⟩
      have hpm : p + n ≤ m := by
        have h2 : (j + 1) * n ≤ k * n := Nat.mul_le_mul_right n hjk
        rw [Nat.add_mul, hp] at h2
        have := HKN.out; omega
      have e2 : (j : Int) * (n : Int) = (p : Int) := by rw [← Int.natCast_mul, hp]
      have e3 : ((j : Int) + 1) * (n : Int) = (p : Int) + (n : Int) := by rw [Int.add_mul, e2]; omega
      have hji : (j : Int) < (k : Int) := by omega
      have hjw : IntKind.i64.wrap ((j : Int) + 1) = (j : Int) + 1 := IntWalk.i64_in _ (by omega)
      have hpw1 : IntKind.i64.wrap (p : Int) = (p : Int) := IntWalk.i64_in _ (by omega)
      have hpw2 : IntKind.i64.wrap ((p : Int) + (n : Int)) = (p : Int) + (n : Int) := IntWalk.i64_in _ (by omega)
      have hpc : (p : Int) + (n : Int) ≤ (c : Int) := by omega
      have hp0 : (0 : Int) ≤ (p : Int) := by omega
      have hn0 : (0 : Int) ≤ (n : Int) := by omega
      have hcp : ¬ c = p := by omega
      have HP := Lib.hid hp; clear hp
      go_wp2_with fail
      have hsub := ((O.out.1.keep (K1.out.trans HG.out.keeps)).drop p).take n
      have hsl : n = ((l.drop p).take n).length := by have := HLEN.out j hjk; rw [HP.out] at this; exact this.symm
      have hbd : ∀ x ∈ (l.drop p).take n, 0 ≤ x ∧ x ≤ 65535 := fun x hx => O.out.2 x (List.mem_of_mem_drop (List.mem_of_mem_take hx))
      have hRj : smallF ((l.drop p).take n) P = R j := by rw [HDEF.out]; show _ = smallF (List.take n (List.drop (j * n) l)) P; rw [HP.out]
      refine (small_own ((l.drop p).take n) _ n (c - p) P _ hsub hbd (by omega) hsl (by omega) (by omega)).mono ?_
      rintro e w2 ⟨v, rfl, hown, hK⟩
      rw [hRj] at hown
      obtain ⟨A1, c1, rfl⟩ := own_slice hown
      have HOW := Lib.hid hown
      have nn := (own_keeps HG.out.own hK).alloc (.cells #[Value.slice A1 n c1] 22)
      have G1 := Lib.hid (World.news_of_block (cs := #[.slice A1 n c1]) (t := 22) (fr := (0, 0)) (heap_alloc_new w2 (.cells #[.slice A1 n c1] 22)))
      have G2 := Lib.hid (show ∀ u ∈ [Value.slice A1 n c1], u.oneCell' = true by simp [Value.oneCell'])
      have g3 : j + 1 ≤ maxLen := by unfold maxLen; omega
      have g4 : (j + 1) * 24 ≤ 140737488355328 := by omega
      have hK4 := (HG.out.keeps.trans hK).alloc (.cells #[Value.slice A1 n c1] 22)
      have G5 := Lib.hid hK4.size
      have HKK := Lib.hid hK
      clear hsub hsl hbd hRj hown hK e2 e3
      go_wp2_with (at_builtin; refine (wpList_append_own _ rfl (.tmp 47) (.tmp 59) 23 rfl w1.heap.size 22 j0 (.slice none 0 0) 1 24 Try.underlying23 hj0 hy0 hy1 hy2 rfl (by decide) _ _ _ rfl nn ⟨w2.heap.size, 0, none⟩ 1 1 [.slice A1 n c1] rfl rfl G1.out G2.out g3 g4 G5.out ?_); intro v' w5 hown5 hgrow _)
      have HGN := Lib.hid (HG.out.step HKK.out HOW.out hown5 hgrow)
      clear hown5 hgrow
      go_roundw
      case rel => exact ⟨j + 1, _, by omega, by go_num, HGN.out⟩
      case measure => simp [intOf]; omega
    · obtain rfl : j = k := by omega
      obtain ⟨wo, rfl⟩ : ∃ wo : World, wo = wr := ⟨_, rfl⟩
      obtain ⟨A2, c2, rfl⟩ := own_slice HG.out.own
      have HS := Lib.hid (HG.out.rowsN fun t ht => (HR.out t ht).1)
      have KW := Lib.hid (K1.out.trans HG.out.keeps)
      clear HG
      go_wp2_with fail
      go_loopw [13] (fun i wi => ∃ x : Nat, x ≤ n ∧ i = .int .i64 (x : Int) ∧ Keeps wo wi ∧ ∀ x' y', x' < x → x' < y' → y' < n → sameF R x' y' j = false) (fun i _ => n - (intOf i).toNat)
      case atStart => exact ⟨0, by omega, rfl, Keeps.refl _, fun x' y' h => by omega⟩
      case round =>
        obtain ⟨x, hx, rfl, hK, hno⟩ := hrel
        have HNO := Lib.hid hno; clear hno
        by_cases hxn : x < n
        · have hxi : (x : Int) < (n : Int) := by omega
          have hx0 : (0 : Int) ≤ (x : Int) := by omega
          have hxw : IntKind.i64.wrap ((x : Int) + 1) = (x : Int) + 1 := IntWalk.i64_in _ (by omega)
          have HK := Lib.hid hK; clear hK
          go_wp2_with fail
          go_loopw [14] (fun i wi => ∃ y : Nat, x < y ∧ y ≤ n ∧ i = .int .i64 (y : Int) ∧ Keeps wo wi ∧ ∀ y', x < y' → y' < y → sameF R x y' j = false) (fun i _ => n - (intOf i).toNat)
          case atStart => exact ⟨x + 1, by omega, by omega, by go_num, HK.out, fun y' h h' => by omega⟩
          case round =>
            obtain ⟨y, hxy, hy, rfl, hK, hno⟩ := hrel
            have HNO2 := Lib.hid hno; clear hno
            by_cases hyn : y < n
            · have hyi : (y : Int) < (n : Int) := by omega
              have hy0 : (0 : Int) ≤ (y : Int) := by omega
              have hyw : IntKind.i64.wrap ((y : Int) + 1) = (y : Int) + 1 := IntWalk.i64_in _ (by omega)
              have HK2 := Lib.hid hK; clear hK
              go_wp2_with fail
              go_loopw [15, 16] (fun v i wi => ∃ t : Nat, t ≤ j ∧ i = .int .i64 (t : Int) ∧ v = .bool (sameF R x y t) ∧ Keeps wo wi) (fun _ i _ => j - (intOf i).toNat)
              case atStart => exact ⟨0, by omega, rfl, rfl, HK2.out⟩
              case round =>
                obtain ⟨t, ht, rfl, rfl, hK⟩ := hrel
                by_cases htj : t < j
                · have hlt : ((List.range j).map R)[t]? = some (R t) := by simp [htj]
                  obtain ⟨b2, off2, A3, c3, rfl, hb2, ca, hrt⟩ := (HS.out.keep hK) t _ hlt
                  have hRl := (HR.out t htj).1
                  rw [hRl] at ca
                  have hcx : (R t)[x]? = some (colF R t x) := by
                    have hl2 : x < (R t).length := by omega
                    rw [List.getElem?_eq_getElem hl2]; simp [colF, at', List.getD_eq_getElem?_getD, hl2]
                  have hcy : (R t)[y]? = some (colF R t y) := by
                    have hl2 : y < (R t).length := by omega
                    rw [List.getElem?_eq_getElem hl2]; simp [colF, at', List.getD_eq_getElem?_getD, hl2]
                  obtain ⟨b3, off3, rfl, hb3, cx⟩ := hrt x _ hcx
                  obtain ⟨b4, off4, he, hb4, cy⟩ := hrt y _ hcy
                  injection he with he; injection he with e1 e2; subst e1; subst e2
                  have hti : (t : Int) < (j : Int) := by omega
                  have ht0 : (0 : Int) ≤ (t : Int) := by omega
                  have htw : IntKind.i64.wrap ((t : Int) + 1) = (t : Int) + 1 := IntWalk.i64_in _ (by omega)
                  have hss : sameF R x y (t + 1) = (sameF R x y t && (colF R t x == colF R t y)) := rfl
                  have HSS := Lib.hid hss
                  generalize colF R t x = u at *
                  generalize colF R t y = v at *
                  clear hlt hrt hRl hcx hcy hss
                  cases hsm : sameF R x y t
                  · have HSM := Lib.hid hsm; clear hsm
                    go_wp2_with fail
                    go_quiet (fail)
                    go_wp2_with fail
                    go_roundw
                    case rel => exact ⟨t + 1, by omega, by go_num, by rw [HSS.out, HSM.out]; rfl, hK.drewN _⟩
                    case measure => simp [intOf]; omega
                  · have HSM := Lib.hid hsm; clear hsm
                    cases huv : (u == v)
                    all_goals
                      go_wp2_with fail
                      go_quiet (fail)
                      go_wp2_with fail
                      go_roundw
                      case rel => exact ⟨t + 1, by omega, by go_num, by rw [HSS.out, HSM.out, huv]; rfl, hK.drewN _⟩
                      case measure => simp [intOf]; omega
                · obtain rfl : t = j := by omega
                  cases hsm : sameF R x y t
                  · have HNO3 : ∀ y', x < y' → y' < y + 1 → sameF R x y' t = false := fun y' g1 g2 => by
                      by_cases e : y' = y
                      · subst e; exact hsm
                      · exact HNO2.out y' g1 (by omega)
                    have HN3 := Lib.hid HNO3; clear HNO3 hsm
                    go_wp2_with fail
                    go_roundw
                    case rel => exact ⟨y + 1, by omega, by omega, by go_num, hK, HN3.out⟩
                    case measure => simp [intOf]; omega
                  · have hrp := run_pair HR.out hxn hyn hsm
                    have hok := okRun_map (d := [(y : Int), (x : Int), (y : Int), (x : Int)]) HR.out q1 q2 q3 q4 (by omega) (by intro z hz; simp at hz; omega)
                    have N1 := nums_lit wr [(y : Int), (x : Int), (y : Int), (x : Int)] #[.int .i64 (y : Int), .int .i64 (x : Int), .int .i64 (y : Int), .int .i64 (x : Int)] rfl
                    have a1 : Keeps wr (wr.alloc (.cells #[Value.int .i64 (y : Int), .int .i64 (x : Int), .int .i64 (y : Int), .int .i64 (x : Int)] 3)) := (Keeps.refl wr).alloc _
                    have hrun := srun_any P ((List.range t).map R) [(y : Int), (x : Int), (y : Int), (x : Int)] A2 (some ⟨wr.heap.size, 0, none⟩) t c2 4 4 _ ((HS.out.keep hK).keep a1) N1 (by simp; omega) (fun r hr => by
                      simp only [List.mem_map, List.mem_range] at hr
                      obtain ⟨jj, hjj, rfl⟩ := hr
                      rw [(HR.out jj hjj).1]; omega) (by simp) (by simp) rfl
                    rw [if_pos hok, Int.toNat_natCast, hrp] at hrun
                    have HRUN := Lib.hid hrun; have KA := Lib.hid (hK.trans a1)
                    clear hrp hok N1 a1 hrun hsm hK
                    go_wp2_with fail
                    refine HRUN.out.mono ?_
                    rintro e w7 ⟨A7, c7, rfl, hn7, hk7⟩
                    have N7 := Lib.hid hn7; have K7 := Lib.hid (KA.out.trans hk7)
                    simp only [List.length_cons, List.length_nil]
                    clear hn7 hk7
                    go_wp2_with fail
                    have N1 := nums_lit w7 [0, 1, 2, 3] #[.int .i64 0, .int .i64 1, .int .i64 2, .int .i64 3] rfl
                    have a1 : Keeps w7 (w7.alloc (.cells #[Value.int .i64 0, .int .i64 1, .int .i64 2, .int .i64 3] 3)) := (Keeps.refl w7).alloc _
                    refine (hin _ _ _ _ _ _ rfl (N7.out.keep a1) N1).mono ?_
                    rintro e w8 ⟨rfl, hk8⟩
                    have K8 := Lib.hid ((K7.out.trans a1).trans hk8)
                    clear N1 a1 hk8
                    go_wp2_with fail
                    go_ret
                    exact bool_post rfl (KW.out.trans K8.out)
            · obtain rfl : y = n := by omega
              have HNO3 : ∀ x' y', x' < x + 1 → x' < y' → y' < y → sameF R x' y' j = false := fun x' y' g1 g2 g3 => by
                by_cases e : x' = x
                · subst e; exact HNO2.out y' g2 g3
                · exact HNO.out x' y' (by omega) g2 g3
              have HN3 := Lib.hid HNO3; clear HNO3
              go_wp2_with fail
              go_roundw
              case rel => exact ⟨x + 1, by omega, by go_num, hK, HN3.out⟩
              case measure => simp [intOf]; omega
        · exfalso
          obtain ⟨x', y', g1, g2, g3⟩ := HTH.out
          have := HNO.out x' y' (by omega) g1 g2
          rw [g3] at this; cases this
theorem div_facts (m k : Nat) (hk : 1 ≤ k) : (m : Int) / (k : Int) = ((m / k : Nat) : Int) ∧ k * (m / k) ≤ m := ⟨rfl, Nat.mul_div_le m k⟩
set_option maxHeartbeats 2000000 in
theorem law_necessary (a0 a1 : Int) (l : List Int) (A : Option Addr) (c : Nat) (w : World) (h0 : 0 ≤ a0) (h0' : a0 ≤ 255) (h1 : 0 ≤ a1) (h1' : a1 ≤ 255) (o : U16s w w.heap.size A l) (hc : l.length ≤ c) (hc2 : c ≤ maxLen) :
    Calls Try.prog 8 #[.int .u8 a0, .int .u8 a1, .slice A l.length c] w (BoolPost true w) := by
  unfold maxLen at hc2
  obtain ⟨P, eP⟩ : ∃ P : Nat, 2 + a0 % 5 = (P : Int) := ⟨(2 + a0 % 5).toNat, by omega⟩
  obtain ⟨k, ek⟩ : ∃ k : Nat, 1 + a1 % 4 = (k : Int) := ⟨(1 + a1 % 4).toNat, by omega⟩
  obtain ⟨e1, e2⟩ := div_facts l.length k (by omega)
  obtain ⟨n, hn⟩ : ∃ n, l.length / k = n := ⟨_, rfl⟩
  rw [hn] at e1 e2
  by_cases ok : n ≤ 40 ∧ pw P k < n
  · exact necessary_in P k n l.length a0 a1 l A c w h0 h0' h1 h1' o rfl hc hc2 eP ek e1 e2 ok.1 ok.2
  · have hml : n ≤ l.length := by rw [← hn]; exact Nat.div_le_self _ _
    generalize l.length = m at *
    have q3i : (1 : Int) ≤ (k : Int) := by omega
    clear o hn e2
    by_cases h40 : 40 < n
    · have t1 : decide (40 < n) = true := by simpa using h40
      have t1' : decide ((40 : Int) < (n : Int)) = true := by simp; omega
      clear ok
      go_enter Try.func8, Try.ntmps8
      go_wp2_with (go_at_call 11; (with_reducible refine (head_any _).mono ?_); rintro e w1 ⟨rfl, hk1⟩)
      go_ret
      exact bool_post rfl hk1
    · have t1 : decide (40 < n) = false := by simpa using h40
      have t1' : decide ((40 : Int) < (n : Int)) = false := by simp; omega
      obtain ⟨pk, hpk⟩ : ∃ p, pw P k = p := ⟨_, rfl⟩
      have t2 : decide (n ≤ pk) = true := by simp; omega
      have t2' : decide ((n : Int) ≤ (pk : Int)) = true := by simp; omega
      have HPK := Lib.hid hpk
      have q2 : P ≤ 64 := by omega
      have q4 : k ≤ 4 := by omega
      clear ok hpk
      go_enter Try.func8, Try.ntmps8
      go_wp2_with (first | (go_at_call 11; (with_reducible refine (head_any _).mono ?_); rintro e w1 ⟨rfl, hk1⟩) | (go_at_call 27; (with_reducible refine (rpower_any P k _ q2 q4 pk HPK.out).mono ?_); rintro e w2 ⟨rfl, rfl⟩))
      go_ret
      exact bool_post rfl hk1
end Go.Proofs.Ytkfcebojfnnieaa
