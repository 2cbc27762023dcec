import Derived.Test.YtfdegdfijjfgbaaU
import Derived.Test.YtfdegdfijjfgbaaQ
import Derived.Test.YtfdegdfijjfgbaaJ
import Derived.Test.YtfdegdfijjfgbaaK
import Derived.Deep.CutRange
import Derived.Test.YtfdegdfijjfgbaaRows
import Derived.WalkKit
import Derived.WalkSpells
import Derived.WalkLawsBesides
import Derived.Laws.EntriesVeiled
import Derived.ProofKit
import Derived.OpenShut
import Derived.Lib.Hide
import Derived.BigQuiet
import Derived.Deep.QuietTactic
import Derived.Below
import Derived.Laws.OwnMore
import Derived.Deep.AppendLies
import Derived.Deep.Draws
import Derived.Laws.Rows
import Derived.Maps.AppendAt
import Derived.RegionTactic
import Derived.OwnWalk
import Derived.Deep.RegionHeld3
namespace Go.Proofs.Ytfdegdfijjfgbaa
open Go.ChangeShapes Go.WideShapes Go.ChangeAt Go.RowKit
set_option linter.unusedSimpArgs false
set_option linter.unusedVariables false
theorem none_q (w : World) : Calls Try.prog 14 #[] w fun e w' => e = .returned (.int .i64 1099511627776) ∧ w' = w := (none_any w).mono fun _ _ ⟨h, e⟩ => ⟨h, e.symm⟩
theorem mat_read {N : Nat} {d : Nat → Nat → Int} {zs : List (List Int)} {B : Option Addr} {W : World} (h : NumRows W W.heap.size B zs) (hz : matF N d = zs) {i j : Nat} (hi : i < N) (hj : j < N) :
    ∃ b1 o1 A1 c1, B = some ⟨b1, o1, none⟩ ∧ W.cell? ⟨b1, o1 + i, none⟩ = some (.slice A1 N c1) ∧ ∃ b2 o2, A1 = some ⟨b2, o2, none⟩ ∧ W.cell? ⟨b2, o2 + j, none⟩ = some (.int .i64 (d i j)) := by
  subst hz
  obtain ⟨b1, o1, A1, c1, e1, _, h0, h1⟩ := h i _ (matF_row hi)
  obtain ⟨b2, o2, e2, _, h2⟩ := h1 j _ (row_at hj)
  rw [List.length_map, List.length_range] at h0
  exact ⟨b1, o1, A1, _, e1, h0, b2, o2, e2, h2⟩
theorem mat_all {N : Nat} {d : Nat → Nat → Int} {zs : List (List Int)} {B : Option Addr} {W : World} (h : NumRows W W.heap.size B zs) (hz : matF N d = zs) (hN : 0 < N) :
    ∃ (b1 o1 : Nat) (Zb Zo zc : Nat → Nat), B = some ⟨b1, o1, none⟩ ∧ ∀ W', Keeps W W' → ∀ i, i < N → W'.cell? ⟨b1, o1 + i, none⟩ = some (.slice (some ⟨Zb i, Zo i, none⟩) N (zc i)) ∧ ∀ j, j < N → W'.cell? ⟨Zb i, Zo i + j, none⟩ = some (.int .i64 (d i j)) := by
  obtain ⟨b1, o1, _, _, rfl, _⟩ := mat_read h hz hN hN
  have hex : ∀ i, ∃ p : Nat × Nat × Nat, i < N → W.cell? ⟨b1, o1 + i, none⟩ = some (.slice (some ⟨p.1, p.2.1, none⟩) N p.2.2) ∧ ∀ j, j < N → W.cell? ⟨p.1, p.2.1 + j, none⟩ = some (.int .i64 (d i j)) := by
    intro i
    by_cases hi : i < N
    · obtain ⟨b, o, A1, c1, e, hc, b2, o2, rfl, _⟩ := mat_read h hz hi hN
      cases e
      refine ⟨(b2, o2, c1), fun _ => ⟨hc, fun j hj => ?_⟩⟩
      obtain ⟨b', o', A2, c2, e, hc', b3, o3, rfl, hc3⟩ := mat_read h hz hi hj
      cases e
      rw [hc'] at hc
      cases hc
      exact hc3
    · exact ⟨(0, 0, 0), fun h => absurd h hi⟩
  obtain ⟨f, hf⟩ := Classical.axiomOfChoice hex
  exact ⟨b1, o1, fun i => (f i).1, fun i => (f i).2.1, fun i => (f i).2.2, rfl, fun W' hk i hi => ⟨cell_keep (hf i hi).1 hk, fun j hj => cell_keep ((hf i hi).2 j hj) hk⟩⟩
theorem nums_all {v : List Int} {B : Option Addr} {W : World} (h : Nums .i64 W W.heap.size B v) (hN : 0 < v.length) :
    ∃ b o, B = some ⟨b, o, none⟩ ∧ ∀ W', Keeps W W' → ∀ i : Nat, i < v.length → W'.cell? ⟨b, o + i, none⟩ = some (.int .i64 (at' v (i : Int))) := by
  obtain ⟨b, o, rfl, _, _⟩ := h 0 _ (List.getElem?_eq_getElem hN)
  refine ⟨b, o, rfl, fun W' hk i hi => ?_⟩
  obtain ⟨b', o', e, _, hc⟩ := h i _ (List.getElem?_eq_getElem hi)
  cases e
  rw [at_nat (List.getElem?_eq_getElem hi)]
  exact cell_keep hc hk
theorem nums_pre {w : World} {B : Nat} {A : Option Addr} {N : Nat} {f : Nat → Int} (h : Nums .i64 w B A ((List.range (N + 1)).map f)) : Nums .i64 w B A ((List.range N).map f) := fun k x hx => by
  have hk := (List.getElem?_eq_some_iff.1 hx).1
  simp at hk
  refine h k x ?_
  rw [← hx]
  simp [hk, Nat.lt_succ_of_lt hk]
theorem holds_is (v : List Int) (l : List Bd) (A B : Option Addr) (n c m c' : Nat) (w : World) (hv : Nums .i64 w w.heap.size A v) (hl : Bnds w w.heap.size B l) (hn : Hid (n = v.length)) (hm : Hid (m = l.length)) (h1 : Hid (v.length ≤ 1000000)) (h2 : Hid (l.length ≤ 1000000)) (r : Bool) (hr : Hid (holdsB v l = r)) :
    Calls Try.prog 16 #[.slice A n c, .slice B m c'] w (BoolPost r w) := holds_any v l A n c B m c' w hv hl h1.out h2.out hn.out hm.out r hr.out
/-- What Close answers, with how great its entries can be. -/
theorem close_get {n : Int} {l : List Bd} (hv : validB n l = true) (h12 : n ≤ 12) (hn : l.length ≤ 400) : ∃ b d, CloseSays n l b d ∧ CloseIs n l b d ∧ ∀ i j, d i j ≤ NoB ∧ -100000000000 ≤ d i j ∧ (d i j ≠ NoB → d i j ≤ 100000000000) := by
  have h0 := valid_n hv
  obtain ⟨N, rfl⟩ : ∃ N : Nat, n = (N : Int) := ⟨n.toNat, by omega⟩
  have hN : N ≤ 12 := by omega
  have hb3 : ∀ i j, closeM N l i j ≤ NoB ∧ -100000000000 ≤ closeM N l i j ∧ (closeM N l i j ≠ NoB → closeM N l i j ≤ 100000000000) := fun i j => by
    have hbnd : Bnd N (closeM N l) := (el_bnd (gof_of hv)).it N (by omega)
    have hp := two_pow_le (k := N) (by omega)
    have h := hbnd i j
    generalize closeM N l i j = x at *
    generalize (2 : Int) ^ N = p at *
    unfold NoB at *
    rcases h with h | h
    · subst h; omega
    · omega
  by_cases hb : leastB N (startF l) = true
  · refine ⟨0, closeM N l, .inl ⟨rfl, (close_iff hv hN).1 hb, by rw [Int.toNat_natCast]; exact close_least hv hN hb⟩, fun A m c w hl hm => ?_, hb3⟩
    have := close_ok N l A m c w hl hn hm hv hN
    rw [if_pos hb] at this
    rw [if_pos rfl, Int.toNat_natCast]; exact this
  · refine ⟨240, closeM N l, .inr ⟨rfl, fun h => hb ((close_iff hv hN).2 h)⟩, fun A m c w hl hm => ?_, hb3⟩
    have := close_ok N l A m c w hl hn hm hv hN
    rw [if_neg hb] at this
    rw [if_neg (by decide)]; exact this
theorem row_last {N : Nat} {d : Nat → Nat → Int} {zs : List (List Int)} {B : Option Addr} {W : World} (h : NumRows W W.heap.size B zs) (hz : matF (N + 1) d = zs) :
    ∃ b1 o1 b2 o2 C, B = some ⟨b1, o1, none⟩ ∧ N + 1 ≤ C ∧ W.cell? ⟨b1, o1 + N, none⟩ = some (.slice (some ⟨b2, o2, none⟩) (N + 1) C) ∧ ∀ W', Keeps W W' → Nums .i64 W' W'.heap.size (some ⟨b2, o2, none⟩) ((List.range N).map (d N)) := by
  subst hz
  obtain ⟨b1, o1, A1, c1, e1, _, h0, h1⟩ := h N _ (matF_row (Nat.lt_succ_self N))
  obtain ⟨b2, o2, rfl, _⟩ := h1 N _ (row_at (Nat.lt_succ_self N))
  rw [List.length_map, List.length_range] at h0
  exact ⟨b1, o1, b2, o2, _, e1, by omega, h0, fun W' hk => nums_pre (h1.keep hk)⟩
set_option maxHeartbeats 8000000 in
set_option maxRecDepth 100000 in
theorem law_solutions (n : Int) (l : List Bd) (A : Option Addr) (c : Nat) (v : List Int) (B : Option Addr) (cv : Nat) (w : World) (o : Bnds w w.heap.size A l) (len : l.length ≤ maxLen) (o2 : Nums .i64 w w.heap.size B v) (len2 : v.length ≤ maxLen) :
    Calls Try.prog 4 #[.int .i64 n, .slice A l.length c, .slice B v.length cv] w (BoolPost true w) := by
  unfold maxLen at len len2
  obtain ⟨m, hm⟩ : ∃ m, m = l.length := ⟨_, rfl⟩
  obtain ⟨p, hp⟩ : ∃ p, p = v.length := ⟨_, rfl⟩
  rw [← hm] at len ⊢
  rw [← hp] at len2 ⊢
  have HM := Lib.hid hm; have O := Lib.hid o; have HP := Lib.hid hp; have OV := Lib.hid o2
  clear o hm o2 hp
  by_cases t1 : 11 < n
  · have t1' : decide (11 < n) = true := by simpa using t1
    go_enter Try.func4, Try.ntmps4
    go_wp2_with (go_at_call 9; (with_reducible refine (head_any _).mono ?_); rintro e w1 ⟨rfl, hk1⟩)
    go_ret
    exact bool_post rfl hk1
  have t1' : decide (11 < n) = false := by simpa using t1
  by_cases t2 : 29 < m
  · have t2' : decide (29 < m) = true := by simpa using t2
    have t2'' : decide ((29 : Int) < (m : Int)) = true := by simp; omega
    go_enter Try.func4, Try.ntmps4
    go_wp2_with (go_at_call 9; (with_reducible refine (head_any _).mono ?_); rintro e w1 ⟨rfl, hk1⟩)
    go_ret
    exact bool_post rfl hk1
  have t2' : decide (29 < m) = false := by simpa using t2
  have t2'' : decide ((29 : Int) < (m : Int)) = false := by simp; omega
  have f3 : l.length ≤ 400 := by have := HM.out; omega
  cases hv : validB n l
  · have HV := Lib.hid hv; clear hv
    go_enter Try.func4, Try.ntmps4
    go_wp2_with (first | (go_at_call 9; (with_reducible refine (head_any _).mono ?_); rintro e w1 ⟨rfl, hk1⟩) | (go_at_call 11; (with_reducible refine (rvalid_is n l A m c _ (O.out.keep hk1) f3 HM false HV).mono ?_); rintro e w2 ⟨rfl, hk2⟩))
    go_ret
    exact bool_post rfl (hk1.trans hk2)
  have hn0 := (valid_n hv).1
  obtain ⟨N, rfl⟩ : ∃ N : Nat, n = (N : Int) := ⟨n.toNat, by omega⟩
  have hN : N ≤ 11 := by omega
  obtain ⟨R, hR⟩ : ∃ R, R = N + 1 := ⟨_, rfl⟩
  have hm29 : m ≤ 29 := by omega
  have hmore : (l ++ starL N N).length ≤ 400 := by have := HM.out; have := star_len N N; simp; omega
  have hv1 : validB (R : Int) (l ++ starL N N) = true := by have := star_valid hv hN; rw [show (R : Int) = (N : Int) + 1 by omega]; exact this
  obtain ⟨b0, d, hs, hc, hbd⟩ := close_get hv (by omega) f3
  obtain ⟨b1, dz, hs1, hc1, _⟩ := close_get hv1 (by omega) hmore
  have hRw : IntKind.i64.wrap ((N : Int) + 1) = (R : Int) := by rw [show (R : Int) = (N : Int) + 1 by omega]; exact IntWalk.i64_in _ (by omega)
  have hNR : (N : Int) < (R : Int) := by omega
  have hR12 : R ≤ 12 := by omega
  have hN0 : (0 : Int) ≤ (N : Int) := by omega
  have HV := Lib.hid hv
  have HR := Lib.hid hR
  have L0 := Lib.hid (show ([] : List Bd).length + l.length ≤ 1000000 by simp; omega)
  have M2 := Lib.hid (show l.length ≤ 1000000 by omega)
  unfold CloseSays at hs hs1
  have hstar := star_noNeg hv
  clear hv1 hmore
  rcases hs with ⟨rfl, hs, hd⟩ | ⟨rfl, hs⟩
  case inr =>
    obtain rfl : b1 = 240 := by
      rcases hs1 with ⟨_, h, _⟩ | ⟨h, _⟩
      · exact absurd (hstar.1 h) hs
      · exact h
    have HC := Lib.hid hc; have HC1 := Lib.hid hc1
    have ARM4 : True := trivial
    have hno : p = N → holdsB v l = false := fun hpn => by
      cases hh : holdsB v l
      · rfl
      · exact absurd (pot_noNeg (fun i => at' v (i : Int)) (holds_edge hh)) hs
    have HNO := Lib.hid hno
    clear hv hs hs1 hc hc1 hbd hstar hno hR
    by_cases t3 : p = N
    · have t3' : ((p : Int) == (N : Int)) = true := by simp [t3]
      have HH := Lib.hid (HNO.out t3)
      have M1 := Lib.hid (show v.length ≤ 1000000 by have := HP.out; omega)
      clear t3
      go_enter Try.func4, Try.ntmps4
      go_upto_region 16 with (first | (go_at_call 9; (with_reducible refine (head_any _).mono ?_); rintro e w1 ⟨rfl, hk1⟩) | (go_at_call 11; (with_reducible refine (rvalid_is N l A m c _ (O.out.keep hk1) f3 HM true HV).mono ?_); rintro e w2 ⟨rfl, hk2⟩) | (go_at_call 12; (with_reducible refine (close_no HC A m c _ (O.out.keep (hk1.trans hk2)) HM).mono ?_); rintro e w3 ⟨B1, d1, rfl, q1, hk3⟩; clear q1) | (go_at_call 16; (with_reducible refine (holds_is v l B A p cv m c _ (OV.out.keep ((hk1.trans hk2).trans hk3)) (O.out.keep ((hk1.trans hk2).trans hk3)) HP HM M1 M2 false HH).mono ?_); rintro e w4 ⟨rfl, hk4⟩))
      have KX := Lib.hid (((hk1.trans hk2).trans hk3).trans hk4)
      clear hk1 hk2 hk3 hk4 HC
      have O0 := Lib.hid (OwnB.lit (Keeps.refl w4))
      have OL := Lib.hid (O.out.keep (KX.out.trans O0.out.2))
      go_upto_region 17 with (at_builtin; refine (wpList_app rfl (.tmp 92) (.tmp 93) rfl _ [] rfl O0.out A m c l rfl OL.out HM L0 ?_); intro A7 n7 c7 w7 ho7; have O7 := Lib.hid ho7; clear ho7 O0 OL)
      go_wp2_with fail
      go_loopw [12, 13] (fun s i wr => ∃ (k : Nat) (A' : Option Addr) (n' c' : Nat), k ≤ N ∧ s = .slice A' n' c' ∧ i = .int .i64 (k : Int) ∧ OwnB w4 wr (.slice A' n' c') (l ++ starL N k)) (fun _ i _ => N - (intOf i).toNat)
      case atStart => exact ⟨0, _, _, _, by omega, rfl, rfl, by have h := O7.out; rw [List.nil_append] at h; rw [show starL N 0 = [] from rfl, List.append_nil]; exact h⟩
      case round =>
        clear O7
        obtain ⟨k, A', n', d', hk, rfl, rfl, hO⟩ := hrel
        have HO := Lib.hid hO; clear hO
        by_cases hkN : k < N
        · have hkk : (k : Int) < (N : Int) := by omega
          have hk00 : (0 : Int) ≤ (k : Int) := by omega
          have hkw : IntKind.i64.wrap ((k : Int) + 1) = (k : Int) + 1 := IntWalk.i64_in _ (by omega)
          have H2 := Lib.hid (HO.out.keep ((Keeps.refl wr).alloc (.cells #[.int .i64 (N : Int), .int .i64 (k : Int), .int .i64 0] 32)))
          have X2 := Lib.hid (bnds_one wr (N : Int) (k : Int) 0)
          have L1 := Lib.hid (show (l ++ starL N k).length + [(⟨(N : Int), (k : Int), 0⟩ : Bd)].length ≤ 1000000 by have := HM.out; have := star_len N k; simp; omega)
          have ONE := Lib.hid (show 1 = [(⟨(N : Int), (k : Int), 0⟩ : Bd)].length from rfl)
          clear HO
          go_wp2_with (at_builtin; refine (wpList_app rfl (.tmp 100) (.tmp 104) rfl _ _ rfl H2.out _ _ _ [⟨(N : Int), (k : Int), 0⟩] rfl X2.out ONE L1 ?_); intro A8 n8 c8 w8 ho8; have O8 := Lib.hid ho8; clear ho8 H2 X2)
          go_roundw
          case rel => exact ⟨k + 1, A8, n8, c8, by omega, rfl, by go_num, by have h := O8.out; rw [List.append_assoc, ← star_next] at h; exact h⟩
          case measure => simp [intOf]; try omega
        · obtain rfl : k = N := by omega
          obtain ⟨hb0, hb1⟩ := HO.out.bnds
          have HB := Lib.hid hb0; have HL := Lib.hid hb1
          have K7 := Lib.hid (KX.out.trans HO.out.2)
          clear hb0 hb1 HO
          go_wp2_with (go_at_call 12; (with_reducible refine (close_no HC1 A' n' d' _ HB.out HL).mono ?_); rintro e w8 ⟨B9, d9, rfl, q9, hk8⟩; clear q9)
          go_ret
          exact bool_post rfl (K7.out.trans hk8)
    · have t3' : ((p : Int) == (N : Int)) = false := by simp; omega
      clear t3
      go_enter Try.func4, Try.ntmps4
      go_upto_region 16 with (first | (go_at_call 9; (with_reducible refine (head_any _).mono ?_); rintro e w1 ⟨rfl, hk1⟩) | (go_at_call 11; (with_reducible refine (rvalid_is N l A m c _ (O.out.keep hk1) f3 HM true HV).mono ?_); rintro e w2 ⟨rfl, hk2⟩) | (go_at_call 12; (with_reducible refine (close_no HC A m c _ (O.out.keep (hk1.trans hk2)) HM).mono ?_); rintro e w3 ⟨B1, d1, rfl, q1, hk3⟩; clear q1))
      have KX := Lib.hid ((hk1.trans hk2).trans hk3)
      clear hk1 hk2 hk3 HC
      have O0 := Lib.hid (OwnB.lit (Keeps.refl w3))
      have OL := Lib.hid (O.out.keep (KX.out.trans O0.out.2))
      go_upto_region 17 with (at_builtin; refine (wpList_app rfl (.tmp 92) (.tmp 93) rfl _ [] rfl O0.out A m c l rfl OL.out HM L0 ?_); intro A7 n7 c7 w7 ho7; have O7 := Lib.hid ho7; clear ho7 O0 OL)
      go_wp2_with fail
      go_loopw [12, 13] (fun s i wr => ∃ (k : Nat) (A' : Option Addr) (n' c' : Nat), k ≤ N ∧ s = .slice A' n' c' ∧ i = .int .i64 (k : Int) ∧ OwnB w3 wr (.slice A' n' c') (l ++ starL N k)) (fun _ i _ => N - (intOf i).toNat)
      case atStart => exact ⟨0, _, _, _, by omega, rfl, rfl, by have h := O7.out; rw [List.nil_append] at h; rw [show starL N 0 = [] from rfl, List.append_nil]; exact h⟩
      case round =>
        clear O7
        obtain ⟨k, A', n', d', hk, rfl, rfl, hO⟩ := hrel
        have HO := Lib.hid hO; clear hO
        by_cases hkN : k < N
        · have hkk : (k : Int) < (N : Int) := by omega
          have hk00 : (0 : Int) ≤ (k : Int) := by omega
          have hkw : IntKind.i64.wrap ((k : Int) + 1) = (k : Int) + 1 := IntWalk.i64_in _ (by omega)
          have H2 := Lib.hid (HO.out.keep ((Keeps.refl wr).alloc (.cells #[.int .i64 (N : Int), .int .i64 (k : Int), .int .i64 0] 32)))
          have X2 := Lib.hid (bnds_one wr (N : Int) (k : Int) 0)
          have L1 := Lib.hid (show (l ++ starL N k).length + [(⟨(N : Int), (k : Int), 0⟩ : Bd)].length ≤ 1000000 by have := HM.out; have := star_len N k; simp; omega)
          have ONE := Lib.hid (show 1 = [(⟨(N : Int), (k : Int), 0⟩ : Bd)].length from rfl)
          clear HO
          go_wp2_with (at_builtin; refine (wpList_app rfl (.tmp 100) (.tmp 104) rfl _ _ rfl H2.out _ _ _ [⟨(N : Int), (k : Int), 0⟩] rfl X2.out ONE L1 ?_); intro A8 n8 c8 w8 ho8; have O8 := Lib.hid ho8; clear ho8 H2 X2)
          go_roundw
          case rel => exact ⟨k + 1, A8, n8, c8, by omega, rfl, by go_num, by have h := O8.out; rw [List.append_assoc, ← star_next] at h; exact h⟩
          case measure => simp [intOf]; try omega
        · obtain rfl : k = N := by omega
          obtain ⟨hb0, hb1⟩ := HO.out.bnds
          have HB := Lib.hid hb0; have HL := Lib.hid hb1
          have K7 := Lib.hid (KX.out.trans HO.out.2)
          clear hb0 hb1 HO
          go_wp2_with (go_at_call 12; (with_reducible refine (close_no HC1 A' n' d' _ HB.out HL).mono ?_); rintro e w8 ⟨B9, d9, rfl, q9, hk8⟩; clear q9)
          go_ret
          exact bool_post rfl (K7.out.trans hk8)
  obtain ⟨rfl, hno1, hdz⟩ : b1 = 0 ∧ NoNeg (Edge (l ++ starL N N)) ∧ Least (Edge (l ++ starL N N)) (N + 1) dz := by
    rcases hs1 with ⟨h1, h2, h3⟩ | ⟨_, h⟩
    · rw [Int.toNat_natCast, HR.out] at h3; exact ⟨h1, h2, h3⟩
    · exact absurd (hstar.2 hs) h
  rw [Int.toNat_natCast] at hd
  obtain ⟨zs, hzs⟩ : ∃ zs, matF R dz = zs := ⟨_, rfl⟩
  have hzN : zs.length = R := by rw [← hzs]; exact matF_len R dz
  have HHS := Lib.hid (star_holds hv hN hdz)
  have HLN := Lib.hid (show N = ((List.range N).map (dz N)).length by simp)
  have M1 := Lib.hid (show ((List.range N).map (dz N)).length ≤ 1000000 by simp; omega)
  obtain ⟨ls, hls⟩ : ∃ ls, matF N d = ls := ⟨_, rfl⟩
  have hlsN : ls.length = N := by rw [← hls]; exact matF_len N d
  have HLS := Lib.hid hls; have HZS := Lib.hid hzs
  have HC := Lib.hid hc; have HC1 := Lib.hid hc1; have HD := Lib.hid hd; have HBD := Lib.hid hbd
  clear hv hs hs1 hd hc hc1 hbd hstar hR hno1 hdz hzs hls
  by_cases t3 : p = N
  case neg =>
    have t3' : ((p : Int) == (N : Int)) = false := by simp; omega
    clear t3
    go_enter Try.func4, Try.ntmps4
    go_upto_region 16 with (first | (go_at_call 9; (with_reducible refine (head_any _).mono ?_); rintro e w1 ⟨rfl, hk1⟩) | (go_at_call 11; (with_reducible refine (rvalid_is N l A m c _ (O.out.keep hk1) f3 HM true HV).mono ?_); rintro e w2 ⟨rfl, hk2⟩) | (go_at_call 12; (with_reducible refine (close_yes HC HLS A m c _ (O.out.keep (hk1.trans hk2)) HM).mono ?_); rintro e w3 ⟨B1, d1, rfl, q1, hk3⟩; clear q1))
    have KX := Lib.hid ((hk1.trans hk2).trans hk3)
    clear hk1 hk2 hk3 HC
    have O0 := Lib.hid (OwnB.lit (Keeps.refl w3))
    have OL := Lib.hid (O.out.keep (KX.out.trans O0.out.2))
    go_upto_region 17 with (at_builtin; refine (wpList_app rfl (.tmp 92) (.tmp 93) rfl _ [] rfl O0.out A m c l rfl OL.out HM L0 ?_); intro A7 n7 c7 w7 ho7; have O7 := Lib.hid ho7; clear ho7 O0 OL)
    go_wp2_with fail
    go_loopw [12, 13] (fun s i wr => ∃ (k : Nat) (A' : Option Addr) (n' c' : Nat), k ≤ N ∧ s = .slice A' n' c' ∧ i = .int .i64 (k : Int) ∧ OwnB w3 wr (.slice A' n' c') (l ++ starL N k)) (fun _ i _ => N - (intOf i).toNat)
    case atStart => exact ⟨0, _, _, _, by omega, rfl, rfl, by have h := O7.out; rw [List.nil_append] at h; rw [show starL N 0 = [] from rfl, List.append_nil]; exact h⟩
    case round =>
      clear O7
      obtain ⟨k, A', n', d', hk, rfl, rfl, hO⟩ := hrel
      have HO := Lib.hid hO; clear hO
      by_cases hkN : k < N
      · have hkk : (k : Int) < (N : Int) := by omega
        have hk00 : (0 : Int) ≤ (k : Int) := by omega
        have hkw : IntKind.i64.wrap ((k : Int) + 1) = (k : Int) + 1 := IntWalk.i64_in _ (by omega)
        have H2 := Lib.hid (HO.out.keep ((Keeps.refl wr).alloc (.cells #[.int .i64 (N : Int), .int .i64 (k : Int), .int .i64 0] 32)))
        have X2 := Lib.hid (bnds_one wr (N : Int) (k : Int) 0)
        have L1 := Lib.hid (show (l ++ starL N k).length + [(⟨(N : Int), (k : Int), 0⟩ : Bd)].length ≤ 1000000 by have := HM.out; have := star_len N k; simp; omega)
        have ONE := Lib.hid (show 1 = [(⟨(N : Int), (k : Int), 0⟩ : Bd)].length from rfl)
        clear HO
        go_wp2_with (at_builtin; refine (wpList_app rfl (.tmp 100) (.tmp 104) rfl _ _ rfl H2.out _ _ _ [⟨(N : Int), (k : Int), 0⟩] rfl X2.out ONE L1 ?_); intro A8 n8 c8 w8 ho8; have O8 := Lib.hid ho8; clear ho8 H2 X2)
        go_roundw
        case rel => exact ⟨k + 1, A8, n8, c8, by omega, rfl, by go_num, by have h := O8.out; rw [List.append_assoc, ← star_next] at h; exact h⟩
        case measure => simp [intOf]; try omega
      · obtain rfl : k = N := by omega
        obtain ⟨hb0, hb1⟩ := HO.out.bnds
        have HB := Lib.hid hb0; have HL := Lib.hid hb1
        have K7 := Lib.hid (KX.out.trans HO.out.2)
        clear hb0 hb1 HO
        go_wp2_with (first | (go_at_call 12; (with_reducible refine (close_yes HC1 HZS A' n' d' _ HB.out HL).mono ?_); rintro e w8 ⟨B9, d9, rfl, q9, hk8⟩; have Q9 := Lib.hid q9; clear q9; rw [hzN]) | (go_at_call 13; (with_reducible refine (square_is R dz B9 R d9 _ (by rw [HZS.out]; exact Q9.out) (by omega) rfl).mono ?_); rintro e w9 ⟨rfl, hk9⟩; obtain ⟨b1, o1, b2, o2, C, rfl, hC, x0, hnum⟩ := row_last (N := k) (Q9.out.keep hk9) (by rw [← HR.out]; exact HZS.out); have HNU := Lib.hid hnum; clear hnum; have hC1 : (k : Int) ≤ (C : Int) := by omega) | (go_at_call 16; (with_reducible refine (holds_is ((List.range k).map (dz k)) l _ A _ _ m c _ (HNU.out _ (Keeps.refl _)) (O.out.keep ((K7.out.trans hk8).trans hk9)) HLN HM M1 M2 true HHS).mono ?_); rintro e w10 ⟨rfl, hk10⟩))
        go_ret
        exact bool_post rfl (((K7.out.trans hk8).trans hk9).trans hk10)
  obtain rfl : N = p := t3.symm
  clear t3
  have t3' : ((N : Int) == (N : Int)) = true := by simp
  have MV := Lib.hid (show v.length ≤ 1000000 by have := HP.out; omega)
  cases hh : holdsB v l
  · have HH := Lib.hid hh
    clear hh
    go_enter Try.func4, Try.ntmps4
    go_upto_region 16 with (first | (go_at_call 9; (with_reducible refine (head_any _).mono ?_); rintro e w1 ⟨rfl, hk1⟩) | (go_at_call 11; (with_reducible refine (rvalid_is N l A m c _ (O.out.keep hk1) f3 HM true HV).mono ?_); rintro e w2 ⟨rfl, hk2⟩) | (go_at_call 12; (with_reducible refine (close_yes HC HLS A m c _ (O.out.keep (hk1.trans hk2)) HM).mono ?_); rintro e w3 ⟨B1, d1, rfl, q1, hk3⟩; clear q1) | (go_at_call 16; (with_reducible refine (holds_is v l B A N cv m c _ (OV.out.keep ((hk1.trans hk2).trans hk3)) (O.out.keep ((hk1.trans hk2).trans hk3)) HP HM MV M2 false HH).mono ?_); rintro e w4 ⟨rfl, hk4⟩))
    have KX := Lib.hid (((hk1.trans hk2).trans hk3).trans hk4)
    clear hk1 hk2 hk3 hk4 HC
    have O0 := Lib.hid (OwnB.lit (Keeps.refl w4))
    have OL := Lib.hid (O.out.keep (KX.out.trans O0.out.2))
    go_upto_region 17 with (at_builtin; refine (wpList_app rfl (.tmp 92) (.tmp 93) rfl _ [] rfl O0.out A m c l rfl OL.out HM L0 ?_); intro A7 n7 c7 w7 ho7; have O7 := Lib.hid ho7; clear ho7 O0 OL)
    go_wp2_with fail
    go_loopw [12, 13] (fun s i wr => ∃ (k : Nat) (A' : Option Addr) (n' c' : Nat), k ≤ N ∧ s = .slice A' n' c' ∧ i = .int .i64 (k : Int) ∧ OwnB w4 wr (.slice A' n' c') (l ++ starL N k)) (fun _ i _ => N - (intOf i).toNat)
    case atStart => exact ⟨0, _, _, _, by omega, rfl, rfl, by have h := O7.out; rw [List.nil_append] at h; rw [show starL N 0 = [] from rfl, List.append_nil]; exact h⟩
    case round =>
      clear O7
      obtain ⟨k, A', n', d', hk, rfl, rfl, hO⟩ := hrel
      have HO := Lib.hid hO; clear hO
      by_cases hkN : k < N
      · have hkk : (k : Int) < (N : Int) := by omega
        have hk00 : (0 : Int) ≤ (k : Int) := by omega
        have hkw : IntKind.i64.wrap ((k : Int) + 1) = (k : Int) + 1 := IntWalk.i64_in _ (by omega)
        have H2 := Lib.hid (HO.out.keep ((Keeps.refl wr).alloc (.cells #[.int .i64 (N : Int), .int .i64 (k : Int), .int .i64 0] 32)))
        have X2 := Lib.hid (bnds_one wr (N : Int) (k : Int) 0)
        have L1 := Lib.hid (show (l ++ starL N k).length + [(⟨(N : Int), (k : Int), 0⟩ : Bd)].length ≤ 1000000 by have := HM.out; have := star_len N k; simp; omega)
        have ONE := Lib.hid (show 1 = [(⟨(N : Int), (k : Int), 0⟩ : Bd)].length from rfl)
        clear HO
        go_wp2_with (at_builtin; refine (wpList_app rfl (.tmp 100) (.tmp 104) rfl _ _ rfl H2.out _ _ _ [⟨(N : Int), (k : Int), 0⟩] rfl X2.out ONE L1 ?_); intro A8 n8 c8 w8 ho8; have O8 := Lib.hid ho8; clear ho8 H2 X2)
        go_roundw
        case rel => exact ⟨k + 1, A8, n8, c8, by omega, rfl, by go_num, by have h := O8.out; rw [List.append_assoc, ← star_next] at h; exact h⟩
        case measure => simp [intOf]; try omega
      · obtain rfl : k = N := by omega
        obtain ⟨hb0, hb1⟩ := HO.out.bnds
        have HB := Lib.hid hb0; have HL := Lib.hid hb1
        have K7 := Lib.hid (KX.out.trans HO.out.2)
        clear hb0 hb1 HO
        go_wp2_with (first | (go_at_call 12; (with_reducible refine (close_yes HC1 HZS A' n' d' _ HB.out HL).mono ?_); rintro e w8 ⟨B9, d9, rfl, q9, hk8⟩; have Q9 := Lib.hid q9; clear q9; rw [hzN]) | (go_at_call 13; (with_reducible refine (square_is R dz B9 R d9 _ (by rw [HZS.out]; exact Q9.out) (by omega) rfl).mono ?_); rintro e w9 ⟨rfl, hk9⟩; obtain ⟨b1, o1, b2, o2, C, rfl, hC, x0, hnum⟩ := row_last (N := k) (Q9.out.keep hk9) (by rw [← HR.out]; exact HZS.out); have HNU := Lib.hid hnum; clear hnum; have hC1 : (k : Int) ≤ (C : Int) := by omega) | (go_at_call 16; (with_reducible refine (holds_is ((List.range k).map (dz k)) l _ A _ _ m c _ (HNU.out _ (Keeps.refl _)) (O.out.keep ((K7.out.trans hk8).trans hk9)) HLN HM M1 M2 true HHS).mono ?_); rintro e w10 ⟨rfl, hk10⟩))
        go_ret
        exact bool_post rfl (((K7.out.trans hk8).trans hk9).trans hk10)
  · have HH := Lib.hid hh
    have hall : ∀ i : Nat, i < N → -1000000000 ≤ at' v (i : Int) ∧ at' v (i : Int) ≤ 1000000000 := fun i hi => by
      have h := hh
      simp only [holdsB, Bool.and_eq_true] at h
      have hp := HP.out
      rw [at_nat (List.getElem?_eq_getElem (show i < v.length by omega))]
      exact allIn_mem h.1 (List.getElem?_eq_getElem (show i < v.length by omega))
    have hdif : ∀ i k : Nat, i < N → d i k ≠ NoB → at' v (k : Int) - at' v (i : Int) ≤ d i k := fun i k hi hne => pot_walk (fun i => at' v (i : Int)) (holds_edge hh) (HD.out.sound i k hne)
    have HALL := Lib.hid hall; have HDIF := Lib.hid hdif
    clear hh hall hdif
    go_enter Try.func4, Try.ntmps4
    go_wp2_with (first | (go_at_call 9; (with_reducible refine (head_any _).mono ?_); rintro e w1 ⟨rfl, hk1⟩) | (go_at_call 11; (with_reducible refine (rvalid_is N l A m c _ (O.out.keep hk1) f3 HM true HV).mono ?_); rintro e w2 ⟨rfl, hk2⟩) | (go_at_call 12; (with_reducible refine (close_yes HC HLS A m c _ (O.out.keep (hk1.trans hk2)) HM).mono ?_); rintro e w3 ⟨B1, d1, rfl, q1, hk3⟩; have Q3 := Lib.hid q1; clear q1; have hlsN := hlsN) | (go_at_call 16; (with_reducible refine (holds_is v l B A N cv m c _ (OV.out.keep ((hk1.trans hk2).trans hk3)) (O.out.keep ((hk1.trans hk2).trans hk3)) HP HM MV M2 true HH).mono ?_); rintro e w4 ⟨rfl, hk4⟩) | (go_at_call 13; (with_reducible refine (square_is N d B1 N d1 _ (by rw [HLS.out]; exact Q3.out.keep hk4) (by omega) rfl).mono ?_); rintro e w5 ⟨rfl, hk5⟩))
    have Q5 := Lib.hid (Q3.out.keep (hk4.trans hk5))
    have K5 := Lib.hid ((((hk1.trans hk2).trans hk3).trans hk4).trans hk5)
    clear hk1 hk2 hk3 hk4 hk5 HC Q3
    go_loopw [10] (fun i wr => ∃ q : Nat, q ≤ N ∧ i = .int .i64 (q : Int) ∧ Keeps w5 wr) (fun i _ => N - (intOf i).toNat)
    case atStart => exact ⟨0, by omega, rfl, Keeps.refl _⟩
    case round =>
      obtain ⟨i, hi, rfl, hK⟩ := hrel
      by_cases hip : i < N
      · have hii : (i : Int) < (N : Int) := by omega
        have hi00 : (0 : Int) ≤ (i : Int) := by omega
        have hiw : IntKind.i64.wrap ((i : Int) + 1) = (i : Int) + 1 := IntWalk.i64_in _ (by omega)
        obtain ⟨b1, o1, Zb, Zo, zc, rfl, hcel⟩ := mat_all Q5.out HLS.out (by omega)
        obtain ⟨b2, o2, rfl, hvel⟩ := nums_all (OV.out.keep K5.out) (by have := HP.out; omega)
        have CEL := Lib.hid hcel; have VEL := Lib.hid hvel
        clear hcel hvel
        go_wp2_with fail
        go_loopw [11] (fun k wr => ∃ q : Nat, q ≤ N ∧ k = .int .i64 (q : Int) ∧ Keeps w5 wr) (fun k _ => N - (intOf k).toNat)
        case atStart => exact ⟨0, by omega, rfl, hK⟩
        case round =>
          clear hK
          obtain ⟨k, hk, rfl, hK⟩ := hrel
          by_cases hkp : k < N
          · have hkk : (k : Int) < (N : Int) := by omega
            have hk00 : (0 : Int) ≤ (k : Int) := by omega
            have hkw : IntKind.i64.wrap ((k : Int) + 1) = (k : Int) + 1 := IntWalk.i64_in _ (by omega)
            obtain ⟨r0, r1⟩ := CEL.out _ hK i hip
            have x1 := r1 k hkp
            have y0 := VEL.out _ hK i (by have := HP.out; omega)
            have y1 := VEL.out _ hK k (by have := HP.out; omega)
            have g0 := HALL.out i hip
            have g1 := HALL.out k hkp
            have g2 := HDIF.out i k hip
            clear r1
            generalize d i k = x at *
            generalize at' v (i : Int) = y at *
            generalize at' v (k : Int) = z at *
            by_cases t4 : x < 1099511627776
            · have t4' : decide (x < 1099511627776) = true := by simpa using t4
              have g3 := g2 (by unfold NoB; omega)
              have hzw : IntKind.i64.wrap (z - y) = z - y := IntWalk.i64_in _ (by omega)
              have hcmp : decide (x < z - y) = false := by simp; omega
              clear g0 g1 g2 g3 t4
              go_wp2_with fail
              go_quiet ((go_at_call 14; exact Calls.quiet_of_same (none_q _)))
              go_wp2_with fail
              go_roundw
              case rel => first | exact ⟨k + 1, by omega, by go_num, hK.drewN _⟩ | ((repeat apply Exists.intro); exact ⟨⟨k + 1, by omega, by go_num, hK.drewN _⟩, rfl⟩)
              case measure => simp [intOf]; omega
            · have t4' : decide (x < 1099511627776) = false := by simpa using t4
              clear g0 g1 g2 t4
              go_wp2_with fail
              go_quiet ((go_at_call 14; exact Calls.quiet_of_same (none_q _)))
              go_wp2_with fail
              go_roundw
              case rel => first | exact ⟨k + 1, by omega, by go_num, hK.drewN _⟩ | ((repeat apply Exists.intro); exact ⟨⟨k + 1, by omega, by go_num, hK.drewN _⟩, rfl⟩)
              case measure => simp [intOf]; omega
          · go_wp2_with fail
            go_roundw
            case rel => first | exact ⟨i + 1, by omega, by go_num, hK⟩ | ((repeat apply Exists.intro); exact ⟨⟨i + 1, by omega, by go_num, hK⟩, rfl⟩)
            case measure => simp [intOf]; omega
      · have KX := Lib.hid (K5.out.trans hK)
        clear hK K5 Q5
        go_upto_region 16 with fail
        generalize wr = wz at *
        have O0 := Lib.hid (OwnB.lit (Keeps.refl wz))
        have OL := Lib.hid (O.out.keep (KX.out.trans O0.out.2))
        go_upto_region 17 with (at_builtin; refine (wpList_app rfl (.tmp 92) (.tmp 93) rfl _ [] rfl O0.out A m c l rfl OL.out HM L0 ?_); intro A7 n7 c7 w7 ho7; have O7 := Lib.hid ho7; clear ho7 O0 OL)
        go_wp2_with fail
        go_loopw [12, 13] (fun s i wr => ∃ (k : Nat) (A' : Option Addr) (n' c' : Nat), k ≤ N ∧ s = .slice A' n' c' ∧ i = .int .i64 (k : Int) ∧ OwnB wz wr (.slice A' n' c') (l ++ starL N k)) (fun _ i _ => N - (intOf i).toNat)
        case atStart => exact ⟨0, _, _, _, by omega, rfl, rfl, by have h := O7.out; rw [List.nil_append] at h; rw [show starL N 0 = [] from rfl, List.append_nil]; exact h⟩
        case round =>
          clear O7
          obtain ⟨k, A', n', d', hk, rfl, rfl, hO⟩ := hrel
          have HO := Lib.hid hO; clear hO
          by_cases hkN : k < N
          · have hkk : (k : Int) < (N : Int) := by omega
            have hk00 : (0 : Int) ≤ (k : Int) := by omega
            have hkw : IntKind.i64.wrap ((k : Int) + 1) = (k : Int) + 1 := IntWalk.i64_in _ (by omega)
            have H2 := Lib.hid (HO.out.keep ((Keeps.refl wr).alloc (.cells #[.int .i64 (N : Int), .int .i64 (k : Int), .int .i64 0] 32)))
            have X2 := Lib.hid (bnds_one wr (N : Int) (k : Int) 0)
            have L1 := Lib.hid (show (l ++ starL N k).length + [(⟨(N : Int), (k : Int), 0⟩ : Bd)].length ≤ 1000000 by have := HM.out; have := star_len N k; simp; omega)
            have ONE := Lib.hid (show 1 = [(⟨(N : Int), (k : Int), 0⟩ : Bd)].length from rfl)
            clear HO
            go_wp2_with (at_builtin; refine (wpList_app rfl (.tmp 100) (.tmp 104) rfl _ _ rfl H2.out _ _ _ [⟨(N : Int), (k : Int), 0⟩] rfl X2.out ONE L1 ?_); intro A8 n8 c8 w8 ho8; have O8 := Lib.hid ho8; clear ho8 H2 X2)
            go_roundw
            case rel => exact ⟨k + 1, A8, n8, c8, by omega, rfl, by go_num, by have h := O8.out; rw [List.append_assoc, ← star_next] at h; exact h⟩
            case measure => simp [intOf]; try omega
          · obtain rfl : k = N := by omega
            obtain ⟨hb0, hb1⟩ := HO.out.bnds
            have HB := Lib.hid hb0; have HL := Lib.hid hb1
            have K7 := Lib.hid (KX.out.trans HO.out.2)
            clear hb0 hb1 HO
            go_wp2_with (first | (go_at_call 12; (with_reducible refine (close_yes HC1 HZS A' n' d' _ HB.out HL).mono ?_); rintro e w8 ⟨B9, d9, rfl, q9, hk8⟩; have Q9 := Lib.hid q9; clear q9; rw [hzN]) | (go_at_call 13; (with_reducible refine (square_is R dz B9 R d9 _ (by rw [HZS.out]; exact Q9.out) (by omega) rfl).mono ?_); rintro e w9 ⟨rfl, hk9⟩; obtain ⟨b1, o1, b2, o2, C, rfl, hC, x0, hnum⟩ := row_last (N := k) (Q9.out.keep hk9) (by rw [← HR.out]; exact HZS.out); have HNU := Lib.hid hnum; clear hnum; have hC1 : (k : Int) ≤ (C : Int) := by omega) | (go_at_call 16; (with_reducible refine (holds_is ((List.range k).map (dz k)) l _ A _ _ m c _ (HNU.out _ (Keeps.refl _)) (O.out.keep ((K7.out.trans hk8).trans hk9)) HLN HM M1 M2 true HHS).mono ?_); rintro e w10 ⟨rfl, hk10⟩))
            go_ret
            exact bool_post rfl (((K7.out.trans hk8).trans hk9).trans hk10)
end Go.Proofs.Ytfdegdfijjfgbaa
