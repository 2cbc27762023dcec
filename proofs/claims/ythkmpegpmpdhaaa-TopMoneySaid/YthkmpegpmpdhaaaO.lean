/- Part of the proofs of TopMoney and TopOrders. Conditions: as stated in each theorem. -/
import Derived.Test.YthkmpegpmpdhaaaN
import Derived.Test.YthkmpegpmpdhaaaL
import Derived.Test.YthkmpegpmpdhaaaF
import Derived.Deep.CutRange
import Derived.StillTailTactics
import Derived.Lib.SliceRun
import Derived.RangeFuncRecord
import Derived.Carry
import Derived.ChangeKeysEq
import Derived.Test.YthkmpegpmpdhaaaRows
import Derived.WalkKit
import Derived.WalkSpells
import Derived.WalkLawsBesides
import Derived.Laws.EntriesVeiled
import Derived.ProofKit
import Derived.OpenShut
import Derived.Lib.Hide
import Derived.BigQuiet
import Derived.Deep.QuietTactic
import Derived.Below
import Derived.Laws.OwnMore
import Derived.Deep.AppendLies
import Derived.Deep.Draws
import Derived.Laws.Rows
import Derived.Maps.AppendAt
import Derived.RegionTactic
import Derived.OwnWalk
import Derived.Deep.RegionHeld3
namespace Go.Proofs.Ythkmpegpmpdhaaa
open Go.ChangeShapes Go.WideShapes Go.ChangeAt Go.RowKit
set_option linter.unusedSimpArgs false
set_option linter.unusedVariables false
def shareL (l : List Int) (s k : Nat) : List Int := (List.range k).map fun j => at0 l ((s + j) % l.length)
theorem shareL_len (l : List Int) (s k : Nat) : (shareL l s k).length = k := by simp [shareL]
theorem shareL_next (l : List Int) (s k : Nat) : shareL l s (k + 1) = shareL l s k ++ [at0 l ((s + k) % l.length)] := by simp [shareL, List.range_succ]
theorem at0_in {l : List Int} {i : Nat} (h : i < l.length) : at0 l i ∈ l := List.mem_of_getElem? (get_at0 h)
theorem shareL_bnd {l : List Int} {M : Int} (h : ∀ x ∈ l, 0 ≤ x ∧ x ≤ M) (h0 : 0 < l.length) (s k : Nat) : ∀ x ∈ shareL l s k, 0 ≤ x ∧ x ≤ M := by
  intro x hx
  simp only [shareL, List.mem_map, List.mem_range] at hx
  obtain ⟨j, _, rfl⟩ := hx
  exact h _ (at0_in (Nat.mod_lt _ h0))
theorem shareL_sum (l : List Int) (s k : Nat) : sumL (shareL l s (k + 1)) = sumL (shareL l s k) + at0 l ((s + k) % l.length) := by
  rw [shareL_next, sumL_append]; simp [sumL]
theorem sum_le {l : List Int} {M : Int} (h : ∀ x ∈ l, 0 ≤ x ∧ x ≤ M) : 0 ≤ sumL l ∧ sumL l ≤ M * (l.length : Int) := by
  induction l with
  | nil => simp [sumL]
  | cons x l ih =>
    have h1 := h x (by simp)
    have h2 := ih (fun y hy => h y (by simp [hy]))
    have e : M * ((x :: l).length : Int) = M + M * (l.length : Int) := by simp only [List.length_cons, Int.natCast_add, Int.mul_add]; simp; omega
    rw [e]
    simp only [sumL]; omega
/-- An element of a list without negatives is at most the sum. -/
theorem at0_le {l : List Int} (h : ∀ k, 0 ≤ at0 l k) : ∀ k, at0 l k ≤ sumL l ∧ 0 ≤ sumL (l.take k) ∧ sumL (l.take k) ≤ sumL l := by
  induction l with
  | nil => intro k; simp [at0, sumL]
  | cons x l ih =>
    have h0 := h 0
    rw [at0_zero] at h0
    have h1 : ∀ k, 0 ≤ at0 l k := fun k => by have := h (k + 1); rwa [at0_succ] at this
    intro k
    rcases k with _ | k
    · have := ih h1 0
      simp only [at0_zero, sumL, List.take_zero] at *; omega
    · have := ih h1 k
      simp only [at0_succ, sumL, List.take_succ_cons] at *; omega
theorem sum_next {l : List Int} {k : Nat} (h : k < l.length) : sumL (l.take (k + 1)) = sumL (l.take k) + at0 l k := by
  rw [List.take_add_one, get_at0 h, sumL_append]; simp [sumL]
/-- Entries of at most a million each. -/
def GoodE (n : Nat) (l : List En) : Prop := ∀ e ∈ l, okEn (n : Int) e = true ∧ e.a ≤ 1000000
theorem GoodE.nil (n : Nat) : GoodE n [] := fun e h => by simp at h
theorem GoodE.add {n : Nat} {l : List En} (h : GoodE n l) {e : En} (he : okEn (n : Int) e = true) (ha : e.a ≤ 1000000) : GoodE n (l ++ [e]) := fun x hx => by
  rcases List.mem_append.1 hx with hx | hx
  · exact h x hx
  · simp at hx; subst hx; exact ⟨he, ha⟩
theorem GoodE.bnd {n : Nat} {l : List En} (h : GoodE n l) (k : Nat) : -(1000000 * (l.length : Int)) ≤ balF l k ∧ balF l k ≤ 1000000 * (l.length : Int) := by
  induction l with
  | nil => simp [balF]
  | cons e l ih =>
    have h1 := (okEn_iff.1 (h e (by simp)).1).2.2.2.2.1
    have h3 := (h e (by simp)).2
    have h2 := ih (fun e he => h e (by simp [he]))
    simp only [balF, bal1, List.length_cons]
    split <;> split <;> omega
theorem GoodE.balL {n : Nat} {l : List En} (h : GoodE n l) (hl : l.length ≤ 96) (k : Nat) (hk : k < (balL n l).length) : -(1000000000 : Int) ≤ at0 (balL n l) k ∧ at0 (balL n l) k ≤ 1000000000 := by
  rw [balL_len] at hk
  rw [balL_at _ hk]
  have := h.bnd k
  omega
def shareE (p k : Nat) (a : Int) : En := ⟨(p : Int), (k : Int), a, ⟨#[115, 104, 97, 114, 101]⟩⟩
theorem okEn_share {n p k : Nat} {a : Int} (hn : n ≤ 100) (hp : p < n) (hk : k < n) (hne : k ≠ p) (ha : 0 < a ∧ a ≤ 1000000) : okEn (n : Int) (shareE p k a) = true := by
  refine okEn_iff.2 ⟨by omega, ?_, ?_, ?_, ?_, ?_⟩ <;> simp only [shareE]
  · omega
  · omega
  · omega
  · omega
  · decide
theorem own_diff {α β : Type} {R : RowTy α} {S : RowTy β} {w0 w1 w : World} {v u : Value} {l : List α} {m : List β} (h : OwnR R w0 w v l) (k : OwnR S w1 w u m) (hne : R.T ≠ S.T) : v.ownBlock = none ∨ v.ownBlock ≠ u.ownBlock := by
  by_cases hv : v.ownBlock = none
  · exact .inl hv
  · exact .inr (own_apart h k hne hv)
theorem own_low {α : Type} {R : RowTy α} {w0 w : World} {v : Value} {l : List α} (h : OwnR R w0 w v l) : ∀ k, v.ownBlock = some k → w0.heap.size ≤ k := fun k hk => (own_lt h.1 hk).1
/-- Numbers in memory, with their bounds. -/
def NumsB (ik : IntKind) (M : Int) (w : World) (A : Option Addr) (l : List Int) : Prop := Nums ik w w.heap.size A l ∧ ∀ x ∈ l, 0 ≤ x ∧ x ≤ M
theorem NumsB.keep {ik : IntKind} {M : Int} {w w' : World} {A : Option Addr} {l : List Int} (h : NumsB ik M w A l) (hk : Keeps w w') : NumsB ik M w' A l := ⟨h.1.keep hk, h.2⟩
/-- The loop over an amount's shares. -/
def RelB (n : Nat) (l3 : List Int) (s : Nat) (w0 : World) (v b i : Value) (w : World) : Prop := ∃ (q : Nat) (A : Option Addr) (c : Nat), q ≤ n ∧ i = .int .i64 (q : Int) ∧ v = .slice A q c ∧ b = .bool (decide (0 < sumL (shareL l3 s q))) ∧ OwnR intR w0 w (.slice A q c) (shareL l3 s q)
/-- The loop over the amounts. -/
def RelE (n m : Nat) (w0 : World) (v i : Value) (w : World) : Prop := ∃ (k : Nat) (E : List En) (A : Option Addr) (c : Nat), k ≤ m ∧ i = .int .i64 (k : Int) ∧ v = .slice A E.length c ∧ OwnR enR w0 w (.slice A E.length c) E ∧ GoodE n E ∧ E.length ≤ 8 * k
/-- The loop over the parts. -/
def RelP (n k : Nat) (w0 : World) (by' P : List Int) (B C : Value) (e s i : Value) (w : World) : Prop := ∃ (q : Nat) (E : List En) (A : Option Addr) (c : Nat), q ≤ n ∧ i = .int .i64 (q : Int) ∧ s = .int .i64 (sumL (P.take q)) ∧ e = .slice A E.length c ∧ OwnR enR w0 w (.slice A E.length c) E ∧ OwnR intR w0 w B by' ∧ OwnR intR w0 w C P ∧ GoodE n E ∧ E.length ≤ 8 * k + q
/-- The loop over the balances. -/
def RelT (n : Nat) (B : List Int) (w0 : World) (s i : Value) (w : World) : Prop := ∃ (q : Nat), q ≤ n ∧ i = .int .i64 (q : Int) ∧ s = .int .i64 (sumL (B.take q)) ∧ Keeps w0 w
/-- The loop over the payments. -/
def RelY (E : List En) (t : List Mv) (w0 : World) (v i : Value) (w : World) : Prop := ∃ (q : Nat) (A : Option Addr) (c : Nat), q ≤ t.length ∧ i = .int .i64 (q : Int) ∧ v = .slice A (E ++ (t.take q).map (payE ⟨#[112, 97, 121]⟩)).length c ∧ OwnR enR w0 w (.slice A (E ++ (t.take q).map (payE ⟨#[112, 97, 121]⟩)).length c) (E ++ (t.take q).map (payE ⟨#[112, 97, 121]⟩))
set_option maxHeartbeats 8000000 in
set_option maxRecDepth 100000 in
theorem law_money (a0 : Int) (l1 : List Int) (A1 : Option Addr) (c1 : Nat) (l2 : List Int) (A2 : Option Addr) (c2 : Nat) (l3 : List Int) (A3 : Option Addr) (c3 : Nat) (w : World) (b1 : 0 ≤ a0) (b2 : a0 ≤ 255)
    (h1 : NumsB .u32 4294967295 w A1 l1) (len1 : l1.length ≤ maxLen) (h2 : NumsB .u8 255 w A2 l2) (len2 : l2.length ≤ maxLen) (h3 : NumsB .u16 65535 w A3 l3) (len3 : l3.length ≤ maxLen) :
    Calls Try.prog 3 #[.int .u8 a0, .slice A1 l1.length c1, .slice A2 l2.length c2, .slice A3 l3.length c3] w (BoolPost true w) := by
  have H1 := Lib.hid h1; have H2 := Lib.hid h2; have H3 := Lib.hid h3
  clear h1 h2 h3
  obtain ⟨r, hr⟩ : ∃ r : Nat, a0 % 7 = (r : Int) := ⟨(a0 % 7).toNat, by omega⟩
  obtain ⟨n, hn⟩ : ∃ n : Nat, n = 2 + r := ⟨_, rfl⟩
  have hn8 : 2 ≤ n ∧ n ≤ 8 := by omega
  have hcv : IntKind.i64.wrap a0 = a0 := IntWalk.i64_in _ (by omega)
  have hrw : IntKind.i64.wrap (r : Int) = r := IntWalk.i64_in _ (by omega)
  have hnw : IntKind.i64.wrap (2 + (r : Int)) = (n : Int) := by rw [IntWalk.i64_in _ (by omega)]; omega
  have HN := Lib.hid hn
  clear hn
  obtain ⟨m1, hm1⟩ : ∃ m, l1.length = m := ⟨_, rfl⟩
  obtain ⟨m2, hm2⟩ : ∃ m, l2.length = m := ⟨_, rfl⟩
  obtain ⟨m3, hm3⟩ : ∃ m, l3.length = m := ⟨_, rfl⟩
  rw [hm1] at len1; rw [hm2] at len2; rw [hm3] at len3
  rw [hm1, hm2, hm3]
  have M1 := Lib.hid hm1; have M2 := Lib.hid hm2; have M3 := Lib.hid hm3
  clear hm1 hm2 hm3
  go_enter Try.func3, Try.ntmps3
  go_upto_region 2 with (go_at_call 5; (with_reducible refine (paid_any _).mono ?_); rintro e w1 ⟨rfl, k1⟩)
  have K1 := Lib.hid k1
  clear k1
  go_upto_region 4 with fail
  · go_wp2_with fail
    go_ret
    exact bool_post rfl K1.out
  · go_wp2_with fail
    go_ret
    exact bool_post rfl K1.out
  rotate_left
  · go_wp2_with fail
    go_ret
    exact bool_post rfl K1.out
  have q3 : ((m1 : Int) ≤ 12 ∧ ((m2 : Int) == 0) = false) ∧ ((m3 : Int) == 0) = false := by assumption
  have hm12 : m1 ≤ 12 := by have := q3.1.1; omega
  have hm2 : 0 < m2 := by
    have := q3.1.2
    simp at this; omega
  have hm3 : 0 < m3 := by
    have := q3.2
    simp at this; omega
  have e1 : decide ((12 : Int) < (m1 : Int)) = false := by simp; omega
  have e2 := q3.1.2
  have e3 := q3.2
  simp only [e1, e2, e3, Bool.or_false, Bool.or_self]
  clear q3 hr hcv hrw hnw e1 e2 e3
  go_loopw [11, 12] (fun v i wr => RelE n m1 w1 v i wr) (fun _ i _ => m1 - (intOf i).toNat)
  case atStart => exact ⟨0, [], none, 0, by omega, rfl, rfl, OwnR.nil w1, GoodE.nil n, by simp⟩
  case round =>
    obtain ⟨k, E, A, c, hk, rfl, rfl, hO, hG, hL⟩ := hrel
    have HE := Lib.hid hO; have HG := Lib.hid hG; have HL := Lib.hid hL
    have HKR := Lib.hid (K1.out.trans hO.2)
    clear hO hG hL
    by_cases hkm : k < m1
    · obtain ⟨x, hx⟩ : ∃ x, at0 l1 k = x := ⟨_, rfl⟩
      have hk1 : k < l1.length := by rw [M1.out]; exact hkm
      have hxb := H1.out.2 _ (at0_in hk1)
      obtain ⟨ba, oa, rfl, _, d1⟩ := (H1.out.keep HKR.out).1 k _ (get_at0 hk1)
      rw [hx] at hxb d1
      obtain ⟨j2, hj2⟩ : ∃ j, k % m2 = j := ⟨_, rfl⟩
      have hj2l : j2 < l2.length := by rw [M2.out, ← hj2]; exact Nat.mod_lt _ hm2
      have hj2i : (k : Int) % (m2 : Int) = (j2 : Int) := by rw [← hj2]; simp
      have hj2k : j2 ≤ k := by rw [← hj2]; exact Nat.mod_le _ _
      have hj2m : (j2 : Int) < (m2 : Int) := by have := M2.out; omega
      have hj20 : (0 : Int) ≤ (j2 : Int) := by omega
      obtain ⟨y, hy⟩ : ∃ y, at0 l2 j2 = y := ⟨_, rfl⟩
      have hyb := H2.out.2 _ (at0_in hj2l)
      obtain ⟨bb, ob, rfl, _, d2⟩ := (H2.out.keep HKR.out).1 j2 _ (get_at0 hj2l)
      rw [hy] at hyb d2
      obtain ⟨am, ham⟩ : ∃ am, x % 1000001 = am := ⟨_, rfl⟩
      have hamb : 0 ≤ am ∧ am ≤ 1000000 := by omega
      obtain ⟨p, hp⟩ : ∃ p : Nat, y % (n : Int) = (p : Int) := ⟨(y % (n : Int)).toNat, by have := Int.emod_nonneg y (show (n : Int) ≠ 0 by omega); omega⟩
      have hpn : p < n := by have := Int.emod_lt_of_pos y (show (0 : Int) < (n : Int) by omega); omega
      have hxw : IntKind.i64.wrap x = x := IntWalk.i64_in _ (by omega)
      have hyw : IntKind.i64.wrap y = y := IntWalk.i64_in _ (by omega)
      have hamw : IntKind.i64.wrap am = am := IntWalk.i64_in _ (by omega)
      have hpw : IntKind.i64.wrap (p : Int) = (p : Int) := IntWalk.i64_in _ (by omega)
      have hj2w : IntKind.i64.wrap (j2 : Int) = (j2 : Int) := IntWalk.i64_in _ (by omega)
      have hm2z : ¬ (m2 : Int) = 0 := by omega
      have hnz : ¬ (n : Int) = 0 := by omega
      have hki : (k : Int) < (m1 : Int) := by omega
      have hk0 : (0 : Int) ≤ (k : Int) := by omega
      have hkw : IntKind.i64.wrap ((k : Int) + 1) = (k : Int) + 1 := IntWalk.i64_in _ (by omega)
      clear hx hy hk1
      obtain ⟨s, hs⟩ : ∃ s, k * n = s := ⟨_, rfl⟩
      have hs96 : s ≤ 12 * 8 := by rw [← hs]; exact Nat.mul_le_mul (by omega) hn8.2
      have hsI : IntKind.i64.wrap ((k : Int) * (n : Int)) = (s : Int) := by rw [← hs, ← Int.natCast_mul]; exact IntWalk.i64_in _ (by rw [hs]; omega)
      clear hs hj2
      go_upto_region 14 with fail
      clear d1 d2
      have O0 := Lib.hid (OwnR.nil (R := intR) wr)
      go_loopw [15, 16, 17] (fun v b i wq => RelB n l3 s wr v b i wq) (fun _ _ i _ => n - (intOf i).toNat)
      case atStart => exact ⟨0, none, 0, by omega, rfl, rfl, rfl, O0.out⟩
      case round =>
        clear O0
        obtain ⟨q, A4, c4, hq, rfl, rfl, rfl, hO4⟩ := hrel
        have O4 := Lib.hid hO4
        clear hO4
        by_cases hqn : q < n
        · obtain ⟨j3, hj3⟩ : ∃ j, (s + q) % m3 = j := ⟨_, rfl⟩
          have hj3l : j3 < l3.length := by rw [M3.out, ← hj3]; exact Nat.mod_lt _ hm3
          have hj3i : ((s + q : Nat) : Int) % (m3 : Int) = (j3 : Int) := by rw [← hj3]; simp
          have hj3k : j3 ≤ s + q := by rw [← hj3]; exact Nat.mod_le _ _
          have hj3m : (j3 : Int) < (m3 : Int) := by have := M3.out; omega
          have hj30 : (0 : Int) ≤ (j3 : Int) := by omega
          have hsq : IntKind.i64.wrap ((s : Int) + (q : Int)) = ((s + q : Nat) : Int) := by rw [IntWalk.i64_in _ (by omega)]; simp
          obtain ⟨z, hz⟩ : ∃ z, at0 l3 j3 = z := ⟨_, rfl⟩
          have hzb := H3.out.2 _ (at0_in hj3l)
          obtain ⟨bc, oc, rfl, _, d3⟩ := (H3.out.keep (HKR.out.trans O4.out.2)).1 j3 _ (get_at0 hj3l)
          rw [hz] at hzb d3
          have hnx : shareL l3 s (q + 1) = shareL l3 s q ++ [z] := by rw [shareL_next, M3.out, hj3, hz]
          have hsx : sumL (shareL l3 s (q + 1)) = sumL (shareL l3 s q) + z := by rw [hnx, sumL_append]; simp [sumL]
          have hnn := (sum_le (shareL_bnd H3.out.2 (by rw [M3.out]; exact hm3) s q)).1
          have NX := Lib.hid hnx; have SX := Lib.hid hsx; have NN := Lib.hid hnn
          have X4 := Lib.hid (RecIn.lit intOk wr [z] #[.int .i64 z] rfl)
          have O5 := Lib.hid (O4.out.keep ((Keeps.refl wr).alloc (.cells #[.int .i64 z] 3)))
          have ONE := Lib.hid (show 1 = [z].length from rfl)
          have LE := Lib.hid (show (shareL l3 s q).length + [z].length ≤ 1000000 by rw [shareL_len]; simp; omega)
          have hzw : IntKind.i64.wrap z = z := IntWalk.i64_in _ (by omega)
          have hj3w : IntKind.i64.wrap (j3 : Int) = (j3 : Int) := IntWalk.i64_in _ (by omega)
          have hm3z : ¬ (m3 : Int) = 0 := by omega
          have hqi : (q : Int) < (n : Int) := by omega
          have hq0 : (0 : Int) ≤ (q : Int) := by omega
          have hqw : IntKind.i64.wrap ((q : Int) + 1) = (q : Int) + 1 := IntWalk.i64_in _ (by omega)
          generalize hsqe : s + q = sq at *
          clear hnx hsx hnn hz hj3 hsqe
          by_cases hS : 0 < sumL (shareL l3 s q)
          · have hsm : decide (0 < sumL (shareL l3 s q)) = true := by simpa using hS
            rw [hsm]
            have HS2 := Lib.hid (show true = decide (0 < sumL (shareL l3 s (q + 1))) by
              rw [SX.out]; symm; simp; omega)
            clear hsm hS
            go_wp2_with (at_builtin; refine wpList_appR intOk rfl (.tmp 95) (.tmp 97) rfl (.slice A4 q c4) (shareL l3 s q) rfl O5.out _ _ _ [z] rfl X4.out ONE LE ?_; intro A6 n6 c6 w6 ho6 hg6; have O6 := Lib.hid ho6; clear ho6 hg6)
            have hn6 := (O6.out.recs intOk).2
            rw [← NX.out, shareL_len] at hn6
            subst hn6
            rw [← NX.out] at O6
            go_roundw
            case rel => first | exact ⟨q + 1, A6, c6, by omega, by go_num, rfl, by rw [← HS2.out], O6.out⟩ | ((repeat apply Exists.intro); refine ⟨?_, ?_⟩; rotate_left; (first | exact rfl | trivial | exact ⟨rfl, rfl⟩ | exact ⟨rfl, rfl, rfl⟩); exact ⟨q + 1, A6, c6, by omega, by go_num, rfl, by rw [← HS2.out], O6.out⟩)
            case measure => simp [intOf]; omega
          · have hsm : decide (0 < sumL (shareL l3 s q)) = false := by simpa using hS
            rw [hsm]
            have HS2 := Lib.hid (show decide (0 < z) = decide (0 < sumL (shareL l3 s (q + 1))) by
              have h1 := NN.out
              rw [SX.out]
              rcases Int.lt_or_le 0 z with h | h
              · rw [decide_eq_true h]; symm; simp; omega
              · rw [decide_eq_false (by omega)]; symm; simp; omega)
            clear hsm hS
            go_wp2_with (at_builtin; refine wpList_appR intOk rfl (.tmp 95) (.tmp 97) rfl (.slice A4 q c4) (shareL l3 s q) rfl O5.out _ _ _ [z] rfl X4.out ONE LE ?_; intro A6 n6 c6 w6 ho6 hg6; have O6 := Lib.hid ho6; clear ho6 hg6)
            have hn6 := (O6.out.recs intOk).2
            rw [← NX.out, shareL_len] at hn6
            subst hn6
            rw [← NX.out] at O6
            go_roundw
            case rel => first | exact ⟨q + 1, A6, c6, by omega, by go_num, rfl, by rw [← HS2.out], O6.out⟩ | ((repeat apply Exists.intro); refine ⟨?_, ?_⟩; rotate_left; (first | exact rfl | trivial | exact ⟨rfl, rfl⟩ | exact ⟨rfl, rfl, rfl⟩); exact ⟨q + 1, A6, c6, by omega, by go_num, rfl, by rw [← HS2.out], O6.out⟩)
            case measure => simp [intOf]; omega
        · obtain rfl : q = n := by omega
          have hby := shareL_bnd H3.out.2 (by rw [M3.out]; exact hm3) s q
          have hln : q = (shareL l3 s q).length := (shareL_len _ _ _).symm
          have HBY := Lib.hid hby; have HLN := Lib.hid hln
          generalize shareL l3 s q = by' at *
          have hnn := (sum_le hby).1
          have HBB := Lib.hid (show ∀ x ∈ by', 0 ≤ x ∧ x ≤ 1000000 from fun x hx => by have := hby x hx; omega)
          have HAM := Lib.hid (show 0 ≤ am ∧ am ≤ 1000000000 by omega)
          have KE4 := Lib.hid O4.out.2
          have E4 := Lib.hid (HE.out.keep O4.out.2)
          have B4 := Lib.hid (O4.out.base HE.out.2)
          clear hby hln
          by_cases hS : 0 < sumL by'
          · have hsm : decide (0 < sumL by') = true := by simpa using hS
            rw [hsm]
            have hpp := (split_parts (amount := am) (by' := by') (by omega) (fun x hx => (HBY.out x hx).1) hS).2
            have HP := Lib.hid hpp
            have HS := Lib.hid hS
            clear hsm hS hpp
            go_upto_region 23 with (go_at_call 6; (with_reducible refine (split_own am by' _ q c4 _ (O4.out.recs intOk).1 HLN (by omega) HAM HBB HS).mono ?_); rintro e w5 ⟨A5, c5, rfl, ho5⟩; have O5 := Lib.hid ho5; clear ho5)
            have hPl : (splitF am by').length = q := by rw [HP.out.len, ← HLN.out]
            rw [hPl] at O5 ⊢
            have HPL := Lib.hid hPl
            generalize splitF am by' = P at *
            have B5 := Lib.hid (B4.out.keep O5.out.2)
            have E5 := Lib.hid (E4.out.keep O5.out.2)
            have P5 := Lib.hid (O5.out.base E4.out.2)
            clear hPl
            go_upto_region 27 with fail
            go_loopw [11, 21, 22] (fun e s i wq => RelP q k w1 by' P (.slice A4 q c4) (.slice A5 q c5) e s i wq) (fun _ _ i _ => q - (intOf i).toNat)
            case atStart => exact ⟨0, E, A, c, by omega, rfl, rfl, rfl, E5.out, B5.out, P5.out, HG.out, by have := HL.out; omega⟩
            case round =>
              clear E5 B5 P5 E4 B4 O4 O5
              obtain ⟨t, E', A6, c6, ht, rfl, rfl, rfl, hE6, hB6, hP6, hG6, hL6⟩ := hrel
              have E6 := Lib.hid hE6; have B6 := Lib.hid hB6; have P6 := Lib.hid hP6; have G6 := Lib.hid hG6; have L6 := Lib.hid hL6
              clear hE6 hB6 hP6 hG6 hL6
              by_cases htq : t < q
              · have htP : t < P.length := by rw [HPL.out]; exact htq
                have htb : t < by'.length := by rw [← HLN.out]; exact htq
                obtain ⟨bd, od, rfl, _, d4⟩ := (B6.out.recs intOk).1.int (get_at0 htb)
                obtain ⟨be, oe, rfl, _, d5⟩ := (P6.out.recs intOk).1.int (get_at0 htP)
                have hnn := HP.out.nn t
                have hle := at0_le HP.out.nn t
                have hnx := sum_next htP
                have hz0 := HP.out.zero t htb
                rw [HP.out.sum] at hle
                obtain ⟨a, ha⟩ : ∃ a, at0 P t = a := ⟨_, rfl⟩
                obtain ⟨b, hb⟩ : ∃ b, at0 by' t = b := ⟨_, rfl⟩
                rw [ha] at d5 hnn hle hnx hz0
                rw [hb] at d4 hz0
                have NX := Lib.hid hnx
                generalize hsu : sumL (P.take t) = su at *
                clear hsu
                have hsw : IntKind.i64.wrap (su + a) = su + a := IntWalk.i64_in _ (by omega)
                have hti : (t : Int) < (q : Int) := by omega
                have ht0 : (0 : Int) ≤ (t : Int) := by omega
                have htw : IntKind.i64.wrap ((t : Int) + 1) = (t : Int) + 1 := IntWalk.i64_in _ (by omega)
                have ha0 : decide (a < 0) = false := by simp; omega
                clear hnx ha hb
                by_cases hpos : 0 < a ∧ t ≠ p
                · have hbz : (b == 0) = false := by simp; intro h; have := hz0 h; omega
                  have hap : decide (0 < a) = true := by simp; omega
                  have htp : ((t : Int) == (p : Int)) = false := by have := hpos.2; simp; omega
                  have htp1 : ¬ t = p := hpos.2
                  have htp2 : ¬ (t : Int) = (p : Int) := by omega
                  have htp3 : (t == p) = false := by simpa using htp1
                  have X6 := Lib.hid (RecIn.lit enOk wr [shareE p t a] #[.int .i64 (p : Int), .int .i64 (t : Int), .int .i64 a, .string ⟨#[115, 104, 97, 114, 101]⟩] rfl)
                  have E7 := Lib.hid (E6.out.keep ((Keeps.refl wr).alloc (.cells #[.int .i64 (p : Int), .int .i64 (t : Int), .int .i64 a, .string ⟨#[115, 104, 97, 114, 101]⟩] 34)))
                  have B7 := Lib.hid (B6.out.keep ((Keeps.refl wr).alloc (.cells #[.int .i64 (p : Int), .int .i64 (t : Int), .int .i64 a, .string ⟨#[115, 104, 97, 114, 101]⟩] 34)))
                  have P7 := Lib.hid (P6.out.keep ((Keeps.refl wr).alloc (.cells #[.int .i64 (p : Int), .int .i64 (t : Int), .int .i64 a, .string ⟨#[115, 104, 97, 114, 101]⟩] 34)))
                  have ONE := Lib.hid (show 1 = [shareE p t a].length from rfl)
                  have LE := Lib.hid (show E'.length + [shareE p t a].length ≤ 1000000 by have := L6.out; simp; omega)
                  have G7 := Lib.hid (G6.out.add (okEn_share (by omega) hpn htq hpos.2 ⟨hpos.1, by omega⟩) (show (shareE p t a).a ≤ 1000000 by show a ≤ 1000000; omega))
                  have L7 := Lib.hid (show (E' ++ [shareE p t a]).length ≤ 8 * k + (t + 1) by have := L6.out; simp; omega)
                  clear E6 B6 P6 hpos
                  go_wp2_with (at_builtin; refine wpList_appR enOk rfl (.tmp 162) (.tmp 170) rfl (.slice A6 E'.length c6) E' rfl E7.out _ _ _ [shareE p t a] rfl X6.out ONE LE ?_; intro A8 n8 c8 w8 ho8 hg8; have B8 := Lib.hid (B7.out.grown hg8 (own_diff B7.out E7.out (by decide)) (own_low E7.out)); have P8 := Lib.hid (P7.out.grown hg8 (own_diff P7.out E7.out (by decide)) (own_low E7.out)); have E8 := Lib.hid ho8; clear ho8 hg8)
                  have hn8 := (E8.out.recs enOk).2
                  subst hn8
                  go_roundw
                  case rel => first | exact ⟨t + 1, E' ++ [shareE p t a], A8, c8, by omega, by go_num, by rw [NX.out], rfl, E8.out, B8.out, P8.out, G7.out, L7.out⟩ | ((repeat apply Exists.intro); refine ⟨?_, ?_⟩; rotate_left; (first | exact rfl | trivial | exact ⟨rfl, rfl⟩ | exact ⟨rfl, rfl, rfl⟩); exact ⟨t + 1, E' ++ [shareE p t a], A8, c8, by omega, by go_num, by rw [NX.out], rfl, E8.out, B8.out, P8.out, G7.out, L7.out⟩)
                  case measure => simp [intOf]; omega
                · by_cases htp : t = p
                  · subst htp
                    by_cases hb0 : b = 0
                    · have ha00 := hz0 hb0
                      subst ha00 hb0
                      clear hpos hz0
                      go_wp2_with fail
                      go_roundw
                      case rel => first | exact ⟨t + 1, E', A6, c6, by omega, by go_num, by first | (rw [NX.out]; done) | simp [NX.out], rfl, E6.out, B6.out, P6.out, G6.out, by have := L6.out; omega⟩ | ((repeat apply Exists.intro); refine ⟨?_, ?_⟩; rotate_left; (first | exact rfl | trivial | exact ⟨rfl, rfl⟩ | exact ⟨rfl, rfl, rfl⟩); exact ⟨t + 1, E', A6, c6, by omega, by go_num, by first | (rw [NX.out]; done) | simp [NX.out], rfl, E6.out, B6.out, P6.out, G6.out, by have := L6.out; omega⟩)
                      case measure => simp [intOf]; omega
                    · have hbz : (b == 0) = false := by simpa using hb0
                      clear hpos hz0
                      go_wp2_with fail
                      go_roundw
                      case rel => first | exact ⟨t + 1, E', A6, c6, by omega, by go_num, by first | (rw [NX.out]; done) | simp [NX.out], rfl, E6.out, B6.out, P6.out, G6.out, by have := L6.out; omega⟩ | ((repeat apply Exists.intro); refine ⟨?_, ?_⟩; rotate_left; (first | exact rfl | trivial | exact ⟨rfl, rfl⟩ | exact ⟨rfl, rfl, rfl⟩); exact ⟨t + 1, E', A6, c6, by omega, by go_num, by first | (rw [NX.out]; done) | simp [NX.out], rfl, E6.out, B6.out, P6.out, G6.out, by have := L6.out; omega⟩)
                      case measure => simp [intOf]; omega
                  · have ha00 : a = 0 := by omega
                    subst ha00
                    have htp1 : ((t : Int) == (p : Int)) = false := by simp; omega
                    have htp2 : ¬ (t : Int) = (p : Int) := by omega
                    have htp3 : (t == p) = false := by simpa using htp
                    by_cases hb0 : b = 0
                    · subst hb0
                      clear hpos hz0
                      go_wp2_with fail
                      go_roundw
                      case rel => first | exact ⟨t + 1, E', A6, c6, by omega, by go_num, by first | (rw [NX.out]; done) | simp [NX.out], rfl, E6.out, B6.out, P6.out, G6.out, by have := L6.out; omega⟩ | ((repeat apply Exists.intro); refine ⟨?_, ?_⟩; rotate_left; (first | exact rfl | trivial | exact ⟨rfl, rfl⟩ | exact ⟨rfl, rfl, rfl⟩); exact ⟨t + 1, E', A6, c6, by omega, by go_num, by first | (rw [NX.out]; done) | simp [NX.out], rfl, E6.out, B6.out, P6.out, G6.out, by have := L6.out; omega⟩)
                      case measure => simp [intOf]; omega
                    · have hbz : (b == 0) = false := by simpa using hb0
                      clear hpos hz0
                      go_wp2_with fail
                      go_roundw
                      case rel => first | exact ⟨t + 1, E', A6, c6, by omega, by go_num, by first | (rw [NX.out]; done) | simp [NX.out], rfl, E6.out, B6.out, P6.out, G6.out, by have := L6.out; omega⟩ | ((repeat apply Exists.intro); refine ⟨?_, ?_⟩; rotate_left; (first | exact rfl | trivial | exact ⟨rfl, rfl⟩ | exact ⟨rfl, rfl, rfl⟩); exact ⟨t + 1, E', A6, c6, by omega, by go_num, by first | (rw [NX.out]; done) | simp [NX.out], rfl, E6.out, B6.out, P6.out, G6.out, by have := L6.out; omega⟩)
                      case measure => simp [intOf]; omega
              · obtain rfl : t = q := by omega
                have hsum : sumL (P.take t) = am := by rw [List.take_of_length_le (by rw [HPL.out]; exact Nat.le_refl _), HP.out.sum]
                rw [hsum]
                clear hsum
                go_wp2_with fail
                go_roundw
                case rel => first | exact ⟨k + 1, E', A6, c6, by omega, by go_num, rfl, E6.out, G6.out, by have := L6.out; omega⟩ | ((repeat apply Exists.intro); refine ⟨?_, ?_⟩; rotate_left; (first | exact rfl | trivial | exact ⟨rfl, rfl⟩ | exact ⟨rfl, rfl, rfl⟩); exact ⟨k + 1, E', A6, c6, by omega, by go_num, rfl, E6.out, G6.out, by have := L6.out; omega⟩)
                case measure => simp [intOf]; omega
          · have hS0 : sumL by' = 0 := by omega
            have hsm : decide (0 < sumL by') = false := by simpa using hS
            rw [hsm]
            have HS := Lib.hid hS0
            clear hsm hS hS0
            go_wp2_with (go_at_call 6; (with_reducible refine (split_no am by' _ q c4 _ (O4.out.recs intOk).1 HLN (by omega) HAM HBB HS).mono ?_); rintro e w5 ⟨A5, c5, rfl, _, hk5⟩; have E5 := Lib.hid (E4.out.keep hk5); clear hk5)
            go_roundw
            case rel => first | exact ⟨k + 1, E, A, c, by omega, by go_num, rfl, E5.out, HG.out, by have := HL.out; omega⟩ | ((repeat apply Exists.intro); refine ⟨?_, ?_⟩; rotate_left; (first | exact rfl | trivial | exact ⟨rfl, rfl⟩ | exact ⟨rfl, rfl, rfl⟩); exact ⟨k + 1, E, A, c, by omega, by go_num, rfl, E5.out, HG.out, by have := HL.out; omega⟩)
            case measure => simp [intOf]; omega
    · obtain rfl : k = m1 := by omega
      have hE96 : E.length ≤ 96 := by have := HL.out; omega
      have HOK := Lib.hid (show ∀ e ∈ E, okEn (n : Int) e = true from fun e he => (HG.out e he).1)
      have BL := Lib.hid (show n = (balL n E).length from (balL_len _ _).symm)
      have BS := Lib.hid (balL_sum HOK.out)
      have BB := Lib.hid (show ∀ j, j < (balL n E).length → -(1000000000 : Int) ≤ at0 (balL n E) j ∧ at0 (balL n E) j ≤ 1000000000 from fun j hj => HG.out.balL hE96 j hj)
      have BAT := Lib.hid (show ∀ j, j < n → at0 (balL n E) j = balF E j from fun j hj => balL_at _ hj)
      have EL := Lib.hid (show E.length = E.length from rfl)
      have HM9 := Lib.hid (show (0 : Int) ≤ 1000000000 ∧ (1000000000 : Int) ≤ 1000000000 by omega)
      go_upto_region 37 with (go_at_call 7; (with_reducible refine (bal_any n E A _ c _ (HE.out.recs enOk).1 EL (by omega) (by omega) HOK).mono ?_); rintro e w5 ⟨A5, c5, rfl, hb5, k5⟩; have R5 := Lib.hid hb5; have E5 := Lib.hid (HE.out.keep k5); clear hb5 k5)
      rw [balL_len]
      clear EL
      generalize balL n E = B at *
      clear HE HL HKR
      go_upto_region 41 with fail
      have R5' := Lib.hid (Keeps.refl w5)
      go_loopw [25, 26] (fun s i wq => RelT n B w5 s i wq) (fun _ i _ => n - (intOf i).toNat)
      case atStart => exact ⟨0, by omega, rfl, rfl, R5'.out⟩
      case round =>
        obtain ⟨q, hq, rfl, rfl, hK⟩ := hrel
        have HK := Lib.hid hK
        clear hK
        by_cases hqn : q < n
        · have hqB : q < B.length := by rw [← BL.out]; exact hqn
          obtain ⟨ba, oa, rfl, _, d1⟩ := (R5.out.keep HK.out).int (get_at0 hqB)
          have hnx := sum_next hqB
          have hx := BB.out q hqB
          have hbd := sum_bnd (B.take q) (fun x hx => by
            obtain ⟨i, hi⟩ := List.getElem?_of_mem (List.mem_of_mem_take hx)
            have h1 := at0_get hi
            have := BB.out i (List.getElem?_eq_some_iff.1 hi).1
            omega)
          rw [List.length_take] at hbd
          have NX := Lib.hid hnx
          generalize hs : sumL (B.take q) = su at *
          generalize hxe : at0 B q = x at *
          clear hs hxe hnx
          have hsw : IntKind.i64.wrap (su + x) = su + x := IntWalk.i64_in _ (by omega)
          have hqi : (q : Int) < (n : Int) := by omega
          have hq0 : (0 : Int) ≤ (q : Int) := by omega
          have hqw : IntKind.i64.wrap ((q : Int) + 1) = (q : Int) + 1 := IntWalk.i64_in _ (by omega)
          clear hbd
          go_wp2_with fail
          go_roundw
          case rel => first | exact ⟨q + 1, by omega, by go_num, by rw [NX.out], HK.out⟩ | ((repeat apply Exists.intro); refine ⟨?_, ?_⟩; rotate_left; (first | exact rfl | trivial | exact ⟨rfl, rfl⟩ | exact ⟨rfl, rfl, rfl⟩); exact ⟨q + 1, by omega, by go_num, by rw [NX.out], HK.out⟩)
          case measure => simp [intOf]; omega
        · obtain rfl : q = n := by omega
          have hsum : sumL (B.take q) = 0 := by rw [List.take_of_length_le (by rw [← BL.out]; exact Nat.le_refl _)]; exact BS.out
          rw [hsum]
          have R6 := Lib.hid (R5.out.keep HK.out)
          have E6 := Lib.hid (E5.out.keep HK.out)
          have KK := Lib.hid (K1.out.trans E6.out.2)
          clear hsum R5 E5 R5' HK K1
          go_upto_region 46 with (first | (go_at_call 8; (with_reducible refine (net_any B _ q c5 1000000000 _ R6.out BL (by omega) (by omega) BS HM9.out BB).mono ?_); rintro e w6 ⟨A8, c8, t, rfl, hq8, hN8, _, k8⟩; have T8 := Lib.hid hq8; have N8 := Lib.hid hN8; have K8 := Lib.hid k8; clear hq8 hN8 k8) | (at_make; refine wpList_makeR intOk (w0 := w6) rfl (.tmp 207) (.tmp 207) rfl 0 (.int .i64 0) (by kernel_rfl) rfl q rfl rfl (by omega) (Keeps.refl _) ?_; intro w7 ho7 hg7; have Z7 := Lib.hid (ho7.recs intOk).1; have K7 := Lib.hid (K8.out.trans ho7.2); have T7 := Lib.hid (T8.out.keep ho7.2); clear ho7 hg7) | (go_at_call 9; (with_reducible refine (adjust_any B _ _ q c5 q 1000000000 _ w7 (R6.out.keep K7.out) Z7.out BL (by omega) (by omega) (by decide) BS HM9.out BB).mono ?_); rintro e w8 ⟨A9, c9, ts, rfl, hq9, hN9, k9⟩; have S9 := Lib.hid hq9; have N9 := Lib.hid hN9; have K9 := Lib.hid (K7.out.trans k9); have T9 := Lib.hid (T7.out.keep k9); clear hq9 hN9 k9))
          have ht1 : decide ((q : Int) ≤ (t.length : Int)) = false := by have := N8.out.few; have := BL.out; simp; omega
          have ht2 : decide (q ≤ t.length) = false := by have := N8.out.few; have := BL.out; simp; omega
          have hs1 : decide ((q : Int) ≤ (ts.length : Int)) = false := by have := N9.out.few; have := BL.out; simp [negL] at *; omega
          have hs2 : decide (q ≤ ts.length) = false := by have := N9.out.few; have := BL.out; simp [negL] at *; omega
          have TL := Lib.hid (show t.length = t.length from rfl)
          have FL := Lib.hid (show q = (t.foldl mvL B).length by rw [runL_len]; exact BL.out)
          have FZ := Lib.hid (runL_zero N8.out)
          clear T8 T7 Z7 K7 K8
          go_upto_region 48 with (first | (go_at_call 11; (with_reducible refine (payall_any B t A5 q c5 A8 _ c8 1000000000 w8 (R6.out.keep K9.out) BL (by omega) (by omega) T9.out TL N8 HM9.out BB).mono ?_); rintro e w10 ⟨A11, c11, rfl, q11, k11⟩; rw [runL_len, ← BL.out]; have Q11 := Lib.hid q11; have K11 := Lib.hid (K9.out.trans k11); have T11 := Lib.hid (T9.out.keep k11); have S11 := Lib.hid (S9.out.keep k11); clear q11 k11) | (go_at_call 10; (with_reducible refine (zero_yes (t.foldl mvL B) A11 q c11 _ Q11.out FL FZ (by omega)).mono ?_); rintro e w12 ⟨rfl, k12⟩; have K12 := Lib.hid (K11.out.trans k12); have T12 := Lib.hid (T11.out.keep k12); have S12 := Lib.hid (S11.out.keep k12); clear k12))
          have E12 := Lib.hid ((E6.out.keep K12.out).recs enOk).1
          have KW12 := Lib.hid (KK.out.trans K12.out)
          have O0 := Lib.hid (OwnR.lit (R := enR) (Keeps.refl w12))
          have EA := Lib.hid (E12.out.keep ((Keeps.refl w12).alloc (.cells #[] 34)))
          have EL := Lib.hid (show E.length = E.length from rfl)
          have LE := Lib.hid (show ([] : List En).length + E.length ≤ 1000000 by simp; omega)
          have GT := Lib.hid (show ∀ p ∈ t, p.f < q ∧ p.t < q ∧ p.f ≠ p.t ∧ 1 ≤ p.a ∧ p.a ≤ 1000000000 from fun p hp => by have := N8.out.ok p hp; rw [← BL.out] at this; exact this)
          have GS := Lib.hid (show ∀ p ∈ ts, p.f < q ∧ p.t < q ∧ p.f ≠ p.t ∧ 1 ≤ p.a ∧ p.a ≤ 1000000000 from fun p hp => by have := N9.out.ok p hp; rw [show (negL B).length = q by simp [negL]; exact BL.out.symm] at this; exact this)
          have hts : ts.length + 1 ≤ q := by have h := hs2; simp at h; omega
          have htt : t.length + 1 ≤ q := by have h := ht2; simp at h; omega
          clear Q11 FL FZ T9 T11 S9 S11 R6 K9 K11 ht1 ht2 hs1 hs2 E6 K12
          go_upto_region 50 with (at_builtin; refine wpList_appR enOk rfl (.tmp 242) (.tmp 243) rfl _ [] rfl O0.out _ _ c E rfl EA.out EL LE ?_; intro A13 n13 c13 w13 ho13 hg13; clear hg13; replace ho13 : OwnR enR w12 w13 (.slice A13 n13 c13) E := ho13; have O13 := Lib.hid ho13; clear ho13)
          have hn13 := (O13.out.recs enOk).2
          subst hn13
          go_loopw [31, 32] (fun v i wq => RelY E t w12 v i wq) (fun _ i _ => t.length - (intOf i).toNat)
          case atStart => exact ⟨0, A13, c13, by omega, rfl, by simp, by simpa using O13.out⟩
          case round =>
            clear O13 O0 EA LE
            obtain ⟨j, A14, c14, hj, rfl, rfl, hO⟩ := hrel
            have HO := Lib.hid hO
            clear hO
            by_cases hjt : j < t.length
            · have hok : t[j]? = some (t[j]'hjt) := List.getElem?_eq_getElem _
              generalize t[j]'hjt = pm at hok
              have NXT := Lib.hid (show E ++ (t.take (j + 1)).map (payE ⟨#[112, 97, 121]⟩) = (E ++ (t.take j).map (payE ⟨#[112, 97, 121]⟩)) ++ [payE ⟨#[112, 97, 121]⟩ pm] by rw [List.take_add_one, hok]; simp)
              have hYl : (E ++ (t.take j).map (payE ⟨#[112, 97, 121]⟩)).length ≤ 104 := by rw [List.length_append, List.length_map, List.length_take]; omega
              have HKK := Lib.hid hok
              obtain ⟨bb, off, rfl, _, c0, c1, c2⟩ := (T12.out.keep HO.out.2).mv hok
              obtain ⟨pf, pt, pa⟩ := pm
              (try dsimp only at c0 c1 c2)
              generalize E ++ (t.take j).map (payE ⟨#[112, 97, 121]⟩) = Y at *
              have hji : (j : Int) < (t.length : Int) := by omega
              have hj0 : (0 : Int) ≤ (j : Int) := by omega
              have hjw : IntKind.i64.wrap ((j : Int) + 1) = (j : Int) + 1 := IntWalk.i64_in _ (by omega)
              have SOF := Lib.hid (show ∀ X, Keeps w12 X → (fun w' => w'.cell? ⟨bb, off + j * 3, none⟩ = some (.int .i64 (pf : Int)) ∧ w'.cell? ⟨bb, off + j * 3 + 1, none⟩ = some (.int .i64 (pt : Int)) ∧ w'.cell? ⟨bb, off + j * 3 + 2, none⟩ = some (.int .i64 pa) ∧ Keeps w12 w') X from fun X hX => by
                obtain ⟨bb', off', e, _, c0, c1, c2⟩ := (T12.out.keep hX).mv HKK.out
                cases e
                exact ⟨c0, c1, c2, hX⟩)
              have HKW := Lib.hid HO.out.2
              have H2 := Lib.hid (HO.out.keep ((Keeps.refl wr).alloc (.cells #[.int .i64 (pt : Int), .int .i64 (pf : Int), .int .i64 pa, .string ⟨#[112, 97, 121]⟩] 34)))
              have H3 := Lib.hid (HO.out.keep (((Keeps.refl wr).alloc (.cells #[.int .i64 (pt : Int), .int .i64 (pf : Int), .int .i64 pa, .string ⟨#[112, 97, 121]⟩] 34)).drew))
              have X2 := Lib.hid (RecIn.lit enOk wr [payE ⟨#[112, 97, 121]⟩ ⟨pf, pt, pa⟩] #[.int .i64 (pt : Int), .int .i64 (pf : Int), .int .i64 pa, .string ⟨#[112, 97, 121]⟩] rfl)
              have X3 := Lib.hid (X2.out.keep (Keeps.refl _).drew)
              have L1 := Lib.hid (show Y.length + [payE ⟨#[112, 97, 121]⟩ ⟨pf, pt, pa⟩].length ≤ 1000000 by simp; omega)
              have ONE := Lib.hid (show 1 = [payE ⟨#[112, 97, 121]⟩ ⟨pf, pt, pa⟩].length from rfl)
              clear HO hok
              go_wp2_with fail
              go_region_held3 (fun w' => w'.cell? ⟨bb, off + j * 3, none⟩ = some (.int .i64 (pf : Int)) ∧ w'.cell? ⟨bb, off + j * 3 + 1, none⟩ = some (.int .i64 (pt : Int)) ∧ w'.cell? ⟨bb, off + j * 3 + 2, none⟩ = some (.int .i64 pa) ∧ Keeps w12 w') ((refine SOF.out _ ?_; (repeat (first | exact HKW.out | assumption | apply Keeps.drew | apply Keeps.alloc)); done)) (first | (refine step_appR enOk (by rfl) (.tmp 251) (.tmp 268) (by rfl) _ _ (by rfl) H2.out _ _ _ [payE ⟨#[112, 97, 121]⟩ ⟨pf, pt, pa⟩] (by rfl) X2.out ONE L1 ?_; intro A17 n17 c17 w17 ho17 hg17; have hkA : Keeps w12 w17 := ho17.2) | (refine step_appR enOk (by rfl) (.tmp 251) (.tmp 268) (by rfl) _ _ (by rfl) H3.out _ _ _ [payE ⟨#[112, 97, 121]⟩ ⟨pf, pt, pa⟩] (by rfl) X3.out ONE L1 ?_; intro A17 n17 c17 w17 ho17 hg17; have hkA : Keeps w12 w17 := ho17.2))
              have O17 := Lib.hid ho17
              clear ho17 hg17 hkA H2 H3 X2 X3
              have hn17 := (O17.out.recs enOk).2
              rw [← NXT.out] at hn17
              subst hn17
              rw [← NXT.out] at O17
              go_wp2_with fail
              go_roundw
              case rel => first | exact ⟨j + 1, A17, c17, by omega, by go_num, rfl, O17.out⟩ | ((repeat apply Exists.intro); refine ⟨?_, ?_⟩; rotate_left; (first | exact rfl | trivial | exact ⟨rfl, rfl⟩ | exact ⟨rfl, rfl, rfl⟩); exact ⟨j + 1, A17, c17, by omega, by go_num, rfl, O17.out⟩)
              case measure => simp [intOf]; omega
            · obtain rfl : j = t.length := by omega
              simp only [List.take_length] at HO ⊢
              have LE := Lib.hid (show ([] : List En).length + E.length ≤ 1000000 by simp; omega)
              have YOK := Lib.hid (show ∀ e ∈ E ++ t.map (payE ⟨#[112, 97, 121]⟩), okEn (q : Int) e = true from fun e he => by
                rcases List.mem_append.1 he with he | he
                · exact HOK.out e he
                · obtain ⟨p, hp, rfl⟩ := List.mem_map.1 he
                  exact (okEn_mv (M := 1000000000) (by omega) (by omega) (by decide) (GT.out p hp)).1)
              have SOK := Lib.hid (show ∀ e ∈ E ++ ts.map (setE ⟨#[115, 101, 116, 116, 108, 101]⟩), okEn (q : Int) e = true from fun e he => by
                rcases List.mem_append.1 he with he | he
                · exact HOK.out e he
                · obtain ⟨p, hp, rfl⟩ := List.mem_map.1 he
                  exact (okEn_mv (M := 1000000000) (by omega) (by omega) (by decide) (GS.out p hp)).2)
              have Y0 := Lib.hid (show ∀ x ∈ balL q (E ++ t.map (payE ⟨#[112, 97, 121]⟩)), x = 0 from balL_zero fun k hk => by
                have h := N8.out.zero k (by rw [← BL.out]; exact hk)
                rw [BAT.out k hk] at h
                rw [balF_pay]; exact h)
              have S0 := Lib.hid (show ∀ x ∈ balL q (E ++ ts.map (setE ⟨#[115, 101, 116, 116, 108, 101]⟩)), x = 0 from balL_zero fun k hk => by
                have h := N9.out.zero k (by rw [show (negL B).length = q by simp [negL]; exact BL.out.symm]; exact hk)
                rw [negL_at, BAT.out k hk] at h
                rw [balF_set]; omega)
              have hYl : (E ++ t.map (payE ⟨#[112, 97, 121]⟩)).length ≤ 1000 := by rw [List.length_append, List.length_map]; omega
              have hSl : (E ++ ts.map (setE ⟨#[115, 101, 116, 116, 108, 101]⟩)).length ≤ 1000 := by rw [List.length_append, List.length_map]; omega
              have YE := Lib.hid (show (E ++ t.map (payE ⟨#[112, 97, 121]⟩)).length = (E ++ t.map (payE ⟨#[112, 97, 121]⟩)).length from rfl)
              have SE := Lib.hid (show (E ++ ts.map (setE ⟨#[115, 101, 116, 116, 108, 101]⟩)).length = (E ++ ts.map (setE ⟨#[115, 101, 116, 116, 108, 101]⟩)).length from rfl)
              have SM := Lib.hid (show ts.length = (ts.map (setE ⟨#[115, 101, 116, 116, 108, 101]⟩)).length by simp)
              have LE2 := Lib.hid (show E.length + (ts.map (setE ⟨#[115, 101, 116, 116, 108, 101]⟩)).length ≤ 1000000 by rw [List.length_map]; omega)
              have YB := Lib.hid (show q = (balL q (E ++ t.map (payE ⟨#[112, 97, 121]⟩))).length from (balL_len _ _).symm)
              have SB := Lib.hid (show q = (balL q (E ++ ts.map (setE ⟨#[115, 101, 116, 116, 108, 101]⟩))).length from (balL_len _ _).symm)
              generalize E ++ t.map (payE ⟨#[112, 97, 121]⟩) = Y at *
              go_upto_region 54 with (go_at_call 7; (with_reducible refine (bal_any q Y A14 _ c14 _ (HO.out.recs enOk).1 YE hYl (by omega) YOK).mono ?_); rintro e w20 ⟨A20, c20, rfl, q20, k20⟩; rw [balL_len]; have Q20 := Lib.hid q20; have K20 := Lib.hid (HO.out.2.trans k20); clear q20 k20)
              have O1 := Lib.hid (OwnR.lit (R := enR) (Keeps.refl w20))
              have E20 := Lib.hid ((E12.out.keep K20.out).keep ((Keeps.refl w20).alloc (.cells #[] 34)))
              have S20 := Lib.hid (S12.out.keep K20.out)
              clear HO T12 S12 E12
              go_wp2_with (first | (at_builtin; refine wpList_appR enOk rfl (.tmp 278) (.tmp 279) rfl _ [] rfl O1.out _ _ c E rfl E20.out (Lib.hid (Eq.refl E.length)) LE ?_; intro A21 n21 c21 w21 ho21 hg21; clear hg21; replace ho21 : OwnR enR w20 w21 (.slice A21 n21 c21) E := ho21; have O21 := Lib.hid ho21; clear ho21; have S21 := Lib.hid (S20.out.keep O21.out.2)) | (at_builtin; refine wpList_appR enOk rfl (.tmp 280) (.tmp 281) rfl _ E rfl O21.out _ _ c9 (ts.map (setE ⟨#[115, 101, 116, 116, 108, 101]⟩)) rfl S21.out SM LE2 ?_; intro A22 n22 c22 w22 ho22 hg22; clear hg22; have O22 := Lib.hid ho22; clear ho22; have hn22 := (O22.out.recs enOk).2; subst hn22; have R22 := Lib.hid (O22.out.recs enOk).1; have K22 := Lib.hid O22.out.2) | (go_at_call 7; (with_reducible refine (bal_any q (E ++ ts.map (setE ⟨#[115, 101, 116, 116, 108, 101]⟩)) A22 _ c22 _ R22.out (Lib.hid (by simp)) (by omega) (by omega) SOK).mono ?_); rintro e w23 ⟨A23, c23, rfl, q23, k23⟩; rw [balL_len]; have Q23 := Lib.hid q23; have K23 := Lib.hid (K22.out.trans k23); have Q20' := Lib.hid (Q20.out.keep K23.out); clear q23 k23) | (go_at_call 10; (with_reducible refine (zero_yes (balL q Y) A20 q c20 _ Q20'.out YB Y0 (by omega)).mono ?_); rintro e w24 ⟨rfl, k24⟩; have Q24 := Lib.hid (Q23.out.keep k24); have K24 := Lib.hid (K23.out.trans k24); clear k24) | (go_at_call 10; (with_reducible refine (zero_yes (balL q (E ++ ts.map (setE ⟨#[115, 101, 116, 116, 108, 101]⟩))) A23 q c23 _ Q24.out SB S0 (by omega)).mono ?_); rintro e w25 ⟨rfl, k25⟩; have K25 := Lib.hid (K24.out.trans k25); clear k25))
              go_ret
              exact bool_post rfl (KW12.out.trans (K20.out.trans K25.out))
end Go.Proofs.Ythkmpegpmpdhaaa
