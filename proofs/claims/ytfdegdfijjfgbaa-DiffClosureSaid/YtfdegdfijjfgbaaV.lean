import Derived.Test.YtfdegdfijjfgbaaS
import Derived.Test.YtfdegdfijjfgbaaK
import Derived.Deep.CutRange
import Derived.Test.YtfdegdfijjfgbaaRows
import Derived.WalkKit
import Derived.WalkSpells
import Derived.WalkLawsBesides
import Derived.Laws.EntriesVeiled
import Derived.ProofKit
import Derived.OpenShut
import Derived.Lib.Hide
import Derived.BigQuiet
import Derived.Deep.QuietTactic
import Derived.Below
import Derived.Laws.OwnMore
import Derived.Deep.AppendLies
import Derived.Deep.Draws
import Derived.Laws.Rows
import Derived.Maps.AppendAt
import Derived.RegionTactic
import Derived.OwnWalk
import Derived.Deep.RegionHeld3
namespace Go.Proofs.Ytfdegdfijjfgbaa
open Go.ChangeShapes Go.WideShapes Go.ChangeAt Go.RowKit
set_option linter.unusedSimpArgs false
set_option linter.unusedVariables false
theorem again_zero (N : Nat) (d : Nat → Nat → Int) : againF N d 0 0 = [] := by simp [againF, rowG]
theorem none_q (w : World) : Calls Try.prog 14 #[] w fun e w' => e = .returned (.int .i64 1099511627776) ∧ w' = w := (none_any w).mono fun _ _ ⟨h, e⟩ => ⟨h, e.symm⟩
theorem mat_read {N : Nat} {d : Nat → Nat → Int} {zs : List (List Int)} {B : Option Addr} {W : World} (h : NumRows W W.heap.size B zs) (hz : matF N d = zs) {i j : Nat} (hi : i < N) (hj : j < N) :
    ∃ b1 o1 A1 c1, B = some ⟨b1, o1, none⟩ ∧ W.cell? ⟨b1, o1 + i, none⟩ = some (.slice A1 N c1) ∧ ∃ b2 o2, A1 = some ⟨b2, o2, none⟩ ∧ W.cell? ⟨b2, o2 + j, none⟩ = some (.int .i64 (d i j)) := by
  subst hz
  obtain ⟨b1, o1, A1, c1, e1, _, h0, h1⟩ := h i _ (matF_row hi)
  obtain ⟨b2, o2, e2, _, h2⟩ := h1 j _ (row_at hj)
  rw [List.length_map, List.length_range] at h0
  exact ⟨b1, o1, A1, c1, e1, h0, b2, o2, e2, h2⟩
/-- What Close answers, with how great its entries can be. -/
theorem close_get {n : Int} {l : List Bd} (hv : validB n l = true) (h12 : n ≤ 12) (hn : l.length ≤ 400) : ∃ b d, CloseSays n l b d ∧ CloseIs n l b d ∧ ∀ i j, d i j ≤ NoB ∧ -100000000000 ≤ d i j ∧ (d i j ≠ NoB → d i j ≤ 100000000000) := by
  have h0 := valid_n hv
  obtain ⟨N, rfl⟩ : ∃ N : Nat, n = (N : Int) := ⟨n.toNat, by omega⟩
  have hN : N ≤ 12 := by omega
  by_cases hb : leastB N (startF l) = true
  · refine ⟨0, closeM N l, .inl ⟨rfl, (close_iff hv hN).1 hb, by rw [Int.toNat_natCast]; exact close_least hv hN hb⟩, fun A m c w hl hm => ?_, close_le_none hv hN⟩
    have := close_ok N l A m c w hl hn hm hv hN
    rw [if_pos hb] at this
    rw [if_pos rfl, Int.toNat_natCast]; exact this
  · refine ⟨240, closeM N l, .inr ⟨rfl, fun h => hb ((close_iff hv hN).2 h)⟩, fun A m c w hl hm => ?_, close_le_none hv hN⟩
    have := close_ok N l A m c w hl hn hm hv hN
    rw [if_neg hb] at this
    rw [if_neg (by decide)]; exact this
/-- Near: all entries so far are small. -/
def NearTo (l : List Bd) (nb : Bool) : Prop := nb = true → ∀ x ∈ l, -10000000 ≤ x.m ∧ x.m ≤ 10000000
theorem near_next {l : List Bd} {nb : Bool} (h : NearTo l nb) (f t m : Int) {nb' : Bool} (e : nb' = true → nb = true ∧ -10000000 ≤ m ∧ m ≤ 10000000) : NearTo (l ++ [⟨f, t, m⟩]) nb' := fun h' x hx => by
  rw [List.mem_append] at hx
  rcases hx with hx | hx
  · exact h (e h').1 x hx
  · simp at hx; subst hx; exact (e h').2
theorem again_close {N : Nat} {l : List Bd} {d : Nat → Nat → Int} (hv : validB (N : Int) l = true) (hN : N ≤ 12) (hd : Least (Edge l) N d) (hno : NoNeg (Edge l)) (hle : ∀ i j, d i j ≤ NoB) (hnear : ∀ x ∈ againF N d N 0, -10000000 ≤ x.m ∧ x.m ≤ 10000000) :
    CloseTo (N : Int) (againF N d N 0) (matF N d) 0 := by
  have hva : validB (N : Int) (againF N d N 0) = true := by
    simp only [validB, Bool.and_eq_true, List.all_eq_true]
    refine ⟨by simp [inR]; omega, fun x hx => ?_⟩
    have h := hnear x hx
    obtain ⟨a, b, ha, hb, _, rfl⟩ := again_mem.1 hx
    (try dsimp only at h)
    simp [okBd, inR]; omega
  have hlen : (againF N d N 0).length ≤ 400 := Nat.le_trans (again_len d hN (Nat.le_refl _) (Nat.zero_le _)) (by omega)
  obtain ⟨h1, h2⟩ := again_same hv hd hno hle
  obtain ⟨b', d', hs, hc⟩ := close_law hva (by omega) hlen
  rcases hs with ⟨rfl, _, hd'⟩ | ⟨_, h⟩
  · intro A m c w hl hm
    have := hc A m c w hl hm
    rw [if_pos rfl, Int.toNat_natCast] at this
    rw [Int.toNat_natCast] at hd'
    rw [matF_congr (h2 d' hd')] at this
    exact this
  · exact absurd h1 h
theorem rows_eq (n : Nat) (d : Nat → Nat → Int) (A B : Option Addr) (c c' : Nat) (w : World) (hl : NumRows w w.heap.size A (matF n d)) (hm : NumRows w w.heap.size B (matF n d)) (hn : n ≤ 12) :
    Calls Try.prog 15 #[.slice A n c, .slice B n c'] w (BoolPost true w) :=
  rows_any (matF n d) (matF n d) A B n c n c' w hl hm (by rw [matF_len]; omega) (by rw [matF_len]; omega) (matF_len n d).symm (matF_len n d).symm (fun l h => by rw [matF_mem h]; omega) (fun l h => by rw [matF_mem h]; omega) true (by simp [sameRows])
theorem mat_all {N : Nat} {d : Nat → Nat → Int} {zs : List (List Int)} {B : Option Addr} {W : World} (h : NumRows W W.heap.size B zs) (hz : matF N d = zs) (hN : 0 < N) :
    ∃ (b1 o1 : Nat) (Zb Zo zc : Nat → Nat), B = some ⟨b1, o1, none⟩ ∧ ∀ W', Keeps W W' → ∀ i, i < N → W'.cell? ⟨b1, o1 + i, none⟩ = some (.slice (some ⟨Zb i, Zo i, none⟩) N (zc i)) ∧ ∀ j, j < N → W'.cell? ⟨Zb i, Zo i + j, none⟩ = some (.int .i64 (d i j)) := by
  obtain ⟨b1, o1, _, _, rfl, _⟩ := mat_read h hz hN hN
  have hex : ∀ i, ∃ p : Nat × Nat × Nat, i < N → W.cell? ⟨b1, o1 + i, none⟩ = some (.slice (some ⟨p.1, p.2.1, none⟩) N p.2.2) ∧ ∀ j, j < N → W.cell? ⟨p.1, p.2.1 + j, none⟩ = some (.int .i64 (d i j)) := by
    intro i
    by_cases hi : i < N
    · obtain ⟨b, o, A1, c1, e, hc, b2, o2, rfl, _⟩ := mat_read h hz hi hN
      cases e
      refine ⟨(b2, o2, c1), fun _ => ⟨hc, fun j hj => ?_⟩⟩
      obtain ⟨b', o', A2, c2, e, hc', b3, o3, rfl, hc3⟩ := mat_read h hz hi hj
      cases e
      rw [hc'] at hc
      cases hc
      exact hc3
    · exact ⟨(0, 0, 0), fun h => absurd h hi⟩
  obtain ⟨f, hf⟩ := Classical.axiomOfChoice hex
  exact ⟨b1, o1, fun i => (f i).1, fun i => (f i).2.1, fun i => (f i).2.2, rfl, fun W' hk i hi => ⟨cell_keep (hf i hi).1 hk, fun j hj => cell_keep ((hf i hi).2 j hj) hk⟩⟩
set_option maxHeartbeats 8000000 in
set_option maxRecDepth 100000 in
theorem law_closure (n : Int) (l : List Bd) (A : Option Addr) (c : Nat) (w : World) (o : Bnds w w.heap.size A l) (len : l.length ≤ maxLen) :
    Calls Try.prog 3 #[.int .i64 n, .slice A l.length c] w (BoolPost true w) := by
  unfold maxLen at len
  obtain ⟨m, hm⟩ : ∃ m, m = l.length := ⟨_, rfl⟩
  rw [← hm] at len ⊢
  have HM := Lib.hid hm; have O := Lib.hid o
  clear o hm
  cases hf : fewB n l
  · have HF := Lib.hid hf; clear hf
    go_enter Try.func3, Try.ntmps3
    go_wp2_with (first | (go_at_call 9; (with_reducible refine (head_any _).mono ?_); rintro e w1 ⟨rfl, hk1⟩) | (go_at_call 10; (with_reducible refine (few_any n l A m c _ HM false HF).mono ?_); rintro e w2 ⟨rfl, hk2⟩))
    go_ret
    exact bool_post rfl (hk1.trans hk2)
  obtain ⟨f1, f2⟩ := fewB_spec hf
  have HF := Lib.hid hf; clear hf
  have hm40 : m ≤ 40 := by have := HM.out; omega
  have f3 : l.length ≤ 400 := by omega
  clear f2
  cases hv : validB n l
  · have HV := Lib.hid hv; clear hv
    go_enter Try.func3, Try.ntmps3
    go_wp2_with (first | (go_at_call 9; (with_reducible refine (head_any _).mono ?_); rintro e w1 ⟨rfl, hk1⟩) | (go_at_call 10; (with_reducible refine (few_any n l A m c _ HM true HF).mono ?_); rintro e w2 ⟨rfl, hk2⟩) | (go_at_call 11; (with_reducible refine (rvalid_is n l A m c _ (O.out.keep (hk1.trans hk2)) f3 HM false HV).mono ?_); rintro e w3 ⟨rfl, hk3⟩))
    go_ret
    exact bool_post rfl ((hk1.trans hk2).trans hk3)
  obtain ⟨b0, d, hs, hc, hbd⟩ := close_get hv f1 f3
  have hn0 := (valid_n hv).1
  have HV := Lib.hid hv
  unfold CloseSays at hs
  rcases hs with ⟨rfl, hs, hd⟩ | ⟨rfl, hs⟩
  case inr =>
    have HC := Lib.hid hc
    clear hv hc hs hbd
    go_enter Try.func3, Try.ntmps3
    go_wp2_with (first | (go_at_call 9; (with_reducible refine (head_any _).mono ?_); rintro e w1 ⟨rfl, hk1⟩) | (go_at_call 10; (with_reducible refine (few_any n l A m c _ HM true HF).mono ?_); rintro e w2 ⟨rfl, hk2⟩) | (go_at_call 11; (with_reducible refine (rvalid_is n l A m c _ (O.out.keep (hk1.trans hk2)) f3 HM true HV).mono ?_); rintro e w3 ⟨rfl, hk3⟩) | (go_at_call 12; (with_reducible refine (close_no HC A m c _ (O.out.keep ((hk1.trans hk2).trans hk3)) HM).mono ?_); rintro e w4 ⟨B1, d1, rfl, q1, hk4⟩))
    go_ret
    exact bool_post rfl (((hk1.trans hk2).trans hk3).trans hk4)
  obtain ⟨N, rfl⟩ : ∃ N : Nat, n = (N : Int) := ⟨n.toNat, by omega⟩
  rw [Int.toNat_natCast] at hd
  have hN12 : N ≤ 12 := by omega
  have HD := Lib.hid hd; have HNN := Lib.hid hs; have HBD := Lib.hid hbd
  obtain ⟨ls, hls⟩ : ∃ ls, matF N d = ls := ⟨_, rfl⟩
  have HLS := Lib.hid hls
  have HC := Lib.hid hc
  clear hd hs hls hc hv hbd
  go_enter Try.func3, Try.ntmps3
  go_wp2_with (first | (go_at_call 9; (with_reducible refine (head_any _).mono ?_); rintro e w1 ⟨rfl, hk1⟩) | (go_at_call 10; (with_reducible refine (few_any N l A m c _ HM true HF).mono ?_); rintro e w2 ⟨rfl, hk2⟩) | (go_at_call 11; (with_reducible refine (rvalid_is N l A m c _ (O.out.keep (hk1.trans hk2)) f3 HM true HV).mono ?_); rintro e w3 ⟨rfl, hk3⟩) | (go_at_call 12; (with_reducible refine (close_yes HC HLS A m c _ (O.out.keep ((hk1.trans hk2).trans hk3)) HM).mono ?_); rintro e w4 ⟨B1, d1, rfl, q1, hk4⟩; have HQ := Lib.hid q1; clear q1; have hlN : ls.length = N := by rw [← HLS.out]; exact matF_len N d) | (go_at_call 13; (with_reducible refine (square_is N d B1 N d1 _ (by rw [HLS.out]; exact HQ.out) (by omega) rfl).mono ?_); rintro e w5 ⟨rfl, hk5⟩))
  have K5 := Lib.hid ((((hk1.trans hk2).trans hk3).trans hk4).trans hk5)
  have Q5 := Lib.hid (HQ.out.keep hk5)
  clear hk1 hk2 hk3 hk4 hk5 HQ HC
  go_loopw [8] (fun i wr => ∃ q : Nat, q ≤ m ∧ i = .int .i64 (q : Int) ∧ Keeps w5 wr) (fun i _ => m - (intOf i).toNat)
  case atStart => exact ⟨0, by omega, rfl, Keeps.refl _⟩
  case round =>
    obtain ⟨q, hq, rfl, hK⟩ := hrel
    by_cases hqm : q < m
    · have hok : l[q]? = some (l[q]'(by rw [← HM.out]; exact hqm)) := List.getElem?_eq_getElem _
      generalize l[q]'(by rw [← HM.out]; exact hqm) = b at hok
      have hmem := List.mem_of_getElem? hok
      have hin := valid_mem HV.out hmem
      obtain ⟨bf, bt, bm⟩ := b
      (try dsimp only at hin)
      obtain ⟨⟨v0, v1⟩, ⟨v2, v3⟩, v4⟩ := hin
      obtain ⟨f, rfl⟩ : ∃ f : Nat, bf = (f : Int) := ⟨bf.toNat, by omega⟩
      obtain ⟨t, rfl⟩ : ∃ t : Nat, bt = (t : Int) := ⟨bt.toNat, by omega⟩
      have hle := (HD.out.full f t bm (by omega) (Wk.one ⟨_, hmem, rfl, rfl, rfl⟩)).2.2
      obtain ⟨bb, off, rfl, hb, c0, c1, c2⟩ := (O.out.keep (K5.out.trans hK)) q _ hok
      obtain ⟨z1, o1, Z1, zc, ez, hz0, z2, o2, ez2, hz1⟩ := mat_read (Q5.out.keep hK) HLS.out (i := f) (j := t) (by omega) (by omega)
      generalize d f t = x at *
      have hcmp : decide (bm < x) = false := by simp; omega
      subst ez ez2
      (try dsimp only at c0 c1 c2)
      have hqi : (q : Int) < (m : Int) := by omega
      have hq00 : (0 : Int) ≤ (q : Int) := by omega
      have hqw : IntKind.i64.wrap ((q : Int) + 1) = (q : Int) + 1 := IntWalk.i64_in _ (by omega)
      clear hok hmem hle v4
      go_wp2_with fail
      go_quiet (fail)
      go_wp2_with fail
      go_roundw
      case rel => first | exact ⟨q + 1, by omega, by go_num, hK.drewN _⟩ | ((repeat apply Exists.intro); exact ⟨⟨q + 1, by omega, by go_num, hK.drewN _⟩, rfl⟩)
      case measure => simp [intOf]; omega
    · go_wp2_with fail
      go_loopw [9, 10, 11] (fun s nr i wr => ∃ (q : Nat) (nb : Bool) (A' : Option Addr) (n' c' : Nat), q ≤ N ∧ s = .slice A' n' c' ∧ nr = .bool nb ∧ i = .int .i64 (q : Int) ∧ OwnB w5 wr (.slice A' n' c') (againF N d q 0) ∧ NearTo (againF N d q 0) nb) (fun _ _ i _ => N - (intOf i).toNat)
      case atStart => exact ⟨0, true, none, 0, 0, by omega, rfl, rfl, rfl, by rw [again_zero]; exact (OwnB.nil w5).keep hK, by rw [again_zero]; exact fun _ x hx => by cases hx⟩
      case round =>
        clear hK
        obtain ⟨i, nb, A', n', c', hi, rfl, rfl, rfl, hO, hN⟩ := hrel
        have HO := Lib.hid hO; have HN := Lib.hid hN
        clear hO hN
        by_cases hiN : i < N
        · obtain ⟨b1, o1, Zb, Zo, zc, rfl, hcel⟩ := mat_all Q5.out HLS.out (by omega)
          have CEL := Lib.hid hcel
          clear hcel
          have hii : (i : Int) < (N : Int) := by omega
          have hi00 : (0 : Int) ≤ (i : Int) := by omega
          have hiw : IntKind.i64.wrap ((i : Int) + 1) = (i : Int) + 1 := IntWalk.i64_in _ (by omega)
          go_wp2_with fail
          go_loopw [9, 10, 12] (fun s nr k wr => ∃ (p : Nat) (nb : Bool) (A' : Option Addr) (n' c' : Nat), p ≤ N ∧ s = .slice A' n' c' ∧ nr = .bool nb ∧ k = .int .i64 (p : Int) ∧ OwnB w5 wr (.slice A' n' c') (againF N d i p) ∧ NearTo (againF N d i p) nb) (fun _ _ k _ => N - (intOf k).toNat)
          case atStart => exact ⟨0, _, _, _, _, by omega, rfl, rfl, rfl, HO.out, HN.out⟩
          case round =>
            clear HO HN
            obtain ⟨p, nb, A', n', c', hp, rfl, rfl, rfl, hO, hN⟩ := hrel
            have HO := Lib.hid hO; have HN := Lib.hid hN
            clear hO hN
            by_cases hpN : p < N
            · have hpi : (p : Int) < (N : Int) := by omega
              have hp00 : (0 : Int) ≤ (p : Int) := by omega
              have hpw : IntKind.i64.wrap ((p : Int) + 1) = (p : Int) + 1 := IntWalk.i64_in _ (by omega)
              obtain ⟨r0, r1⟩ := CEL.out _ HO.out.2 i hiN
              have x0 := r1 i hiN
              have x1 := r1 p hpN
              rw [HD.out.diag i hiN] at x0
              have hb1 := (HBD.out i p).1
              have hcmp : decide ((1099511627776 : Int) < d i p) = false := by unfold NoB at hb1; simp; omega
              clear r1 hb1
              by_cases e : i = p
              · have e' : ((i : Int) == (p : Int)) = true := by simp [e]
                clear e
                go_wp2_with fail
                go_quiet ((go_at_call 14; exact Calls.quiet_of_same (none_q _)))
                have K6 := Lib.hid (HO.out.2.drewN nq)
                have O6 := Lib.hid (HO.out.keep ((Keeps.refl _).drewN nq))
                clear r0 x0 x1 hcmp e' HO
                generalize World.drewN _ _ = W6 at *
                go_wp2_with fail
                go_loopw [13] (fun k wr => ∃ j : Nat, j ≤ N ∧ k = .int .i64 (j : Int) ∧ Keeps W6 wr) (fun k _ => N - (intOf k).toNat)
                case atStart => exact ⟨0, by omega, rfl, Keeps.refl _⟩
                case round =>
                  obtain ⟨j, hj, rfl, hK⟩ := hrel
                  obtain ⟨r0, r1⟩ := CEL.out _ (K6.out.trans hK) i hiN
                  have x1 := r1 p hpN
                  by_cases hjN : j < N
                  · obtain ⟨s0, s1⟩ := CEL.out _ (K6.out.trans hK) p hpN
                    have x2 := r1 j hjN
                    have x3 := s1 j hjN
                    clear r1 s1
                    have hjj : (j : Int) < (N : Int) := by omega
                    have hj00 : (0 : Int) ≤ (j : Int) := by omega
                    have hjw : IntKind.i64.wrap ((j : Int) + 1) = (j : Int) + 1 := IntWalk.i64_in _ (by omega)
                    have g1 := HBD.out i p
                    have g2 := HBD.out p j
                    have g3 := HBD.out i j
                    have tri : d i p ≠ NoB → d p j ≠ NoB → d i j ≤ d i p + d p j := fun h1 h2 => (HD.out.full i j _ hiN ((HD.out.sound i p h1).trans (HD.out.sound p j h2))).2.2
                    generalize d i p = x at *
                    generalize d p j = y at *
                    generalize d i j = z at *
                    by_cases t1 : x < 1099511627776
                    · have t1' : decide (x < 1099511627776) = true := by simpa using t1
                      by_cases t2 : y < 1099511627776
                      · have t2' : decide (y < 1099511627776) = true := by simpa using t2
                        have hsw : IntKind.i64.wrap (x + y) = x + y := IntWalk.i64_in _ (by unfold NoB at *; omega)
                        have hcmp : decide (x + y < z) = false := by unfold NoB at *; simp; omega
                        clear tri g1 g2 g3 t1 t2
                        go_wp2_with fail
                        go_quiet ((go_at_call 14; exact Calls.quiet_of_same (none_q _)))
                        go_wp2_with fail
                        go_roundw
                        case rel => first | exact ⟨j + 1, by omega, by go_num, hK.drewN _⟩ | ((repeat apply Exists.intro); exact ⟨⟨j + 1, by omega, by go_num, hK.drewN _⟩, rfl⟩)
                        case measure => simp [intOf]; omega
                      · have t2' : decide (y < 1099511627776) = false := by simpa using t2
                        clear tri g1 g2 g3 t1 t2
                        go_wp2_with fail
                        go_quiet ((go_at_call 14; exact Calls.quiet_of_same (none_q _)))
                        go_wp2_with fail
                        go_roundw
                        case rel => first | exact ⟨j + 1, by omega, by go_num, hK.drewN _⟩ | ((repeat apply Exists.intro); exact ⟨⟨j + 1, by omega, by go_num, hK.drewN _⟩, rfl⟩)
                        case measure => simp [intOf]; omega
                    · have t1' : decide (x < 1099511627776) = false := by simpa using t1
                      clear tri g1 g2 g3 t1
                      go_wp2_with fail
                      go_quiet ((go_at_call 14; exact Calls.quiet_of_same (none_q _)))
                      go_wp2_with fail
                      go_roundw
                      case rel => first | exact ⟨j + 1, by omega, by go_num, hK.drewN _⟩ | ((repeat apply Exists.intro); exact ⟨⟨j + 1, by omega, by go_num, hK.drewN _⟩, rfl⟩)
                      case measure => simp [intOf]; omega
                  · clear r1
                    have HA := Lib.hid (again_next N d i p)
                    have HL := Lib.hid (again_len d hN12 (Nat.le_of_lt hiN) (Nat.le_of_lt hpN))
                    by_cases t1 : d i p < 1099511627776
                    · have t1' : decide (d i p < 1099511627776) = true := by simpa using t1
                      have HT := Lib.hid (show againF N d i (p + 1) = againF N d i p ++ [⟨(i : Int), (p : Int), d i p⟩] by rw [HA.out]; unfold NoB; rw [if_pos t1])
                      clear HA t1
                      have HO := Lib.hid (O6.out.keep hK)
                      obtain ⟨x, hx⟩ : ∃ x, d i p = x := ⟨_, rfl⟩
                      rw [hx] at x1 t1'
                      have HX := Lib.hid hx
                      clear hx
                      go_wp2_with fail
                      go_quiet ((go_at_call 14; exact Calls.quiet_of_same (none_q _)))
                      have KD := Lib.hid (K6.out.trans (hK.drewN nq))
                      have OD := Lib.hid (HO.out.keep ((Keeps.refl _).drewN nq))
                      clear hK HO O6 K6 t1' r0 x1
                      generalize World.drewN _ _ = W7 at *
                      obtain ⟨r0, r1⟩ := CEL.out _ KD.out i hiN
                      have x1 := r1 p hpN
                      rw [HX.out] at x1
                      clear r1
                      have H2 := Lib.hid (OD.out.keep ((Keeps.refl W7).alloc (.cells #[.int .i64 (i : Int), .int .i64 (p : Int), .int .i64 x] 32)))
                      have X2 := Lib.hid (bnds_one W7 (i : Int) (p : Int) x)
                      have L1 := Lib.hid (show (againF N d i p).length + [(⟨(i : Int), (p : Int), x⟩ : Bd)].length ≤ 1000000 by have := HL.out; simp; omega)
                      have ONE := Lib.hid (show 1 = [(⟨(i : Int), (p : Int), x⟩ : Bd)].length from rfl)
                      clear OD
                      go_upto_region 31 with (at_builtin; refine (wpList_app rfl (.tmp 170) (.tmp 181) rfl _ _ rfl H2.out _ _ _ [⟨(i : Int), (p : Int), x⟩] rfl X2.out ONE L1 ?_); intro A8 n8 c8 w8 ho8; have O8 := Lib.hid ho8; clear ho8 H2 X2)
                      clear r0 x1 KD
                      obtain ⟨r0, r1⟩ := CEL.out _ O8.out.2 i hiN
                      have x1 := r1 p hpN
                      rw [HX.out] at x1
                      clear r1
                      have hO9 := O8.out
                      rw [← HX.out, ← HT.out] at hO9
                      have O9 := Lib.hid hO9
                      clear hO9
                      cases nb
                      · have N9 := Lib.hid (show NearTo (againF N d i (p + 1)) false from fun h => by cases h)
                        go_wp2_with fail
                        go_roundw
                        case rel => first | exact ⟨p + 1, _, _, _, _, by omega, rfl, rfl, by go_num, (by first | exact O9.out | exact O9.out.keep ((Keeps.refl _).drewN _)), N9.out⟩ | ((repeat apply Exists.intro); exact ⟨⟨p + 1, _, _, _, _, by omega, rfl, rfl, by go_num, (by first | exact O9.out | exact O9.out.keep ((Keeps.refl _).drewN _)), N9.out⟩, rfl⟩)
                        case measure => simp [intOf]; omega
                      · by_cases t2 : -10000000 ≤ x
                        · have t2' : decide (-10000000 ≤ x) = true := by simpa using t2
                          have N9 := Lib.hid (show NearTo (againF N d i (p + 1)) (decide (x ≤ 10000000)) by rw [HT.out, HX.out]; exact near_next HN.out _ _ _ (fun h => ⟨rfl, t2, by simpa using h⟩))
                          clear t2
                          go_wp2_with fail
                          go_roundw
                          case rel => first | exact ⟨p + 1, _, _, _, _, by omega, rfl, rfl, by go_num, (by first | exact O9.out | exact O9.out.keep ((Keeps.refl _).drewN _)), N9.out⟩ | ((repeat apply Exists.intro); exact ⟨⟨p + 1, _, _, _, _, by omega, rfl, rfl, by go_num, (by first | exact O9.out | exact O9.out.keep ((Keeps.refl _).drewN _)), N9.out⟩, rfl⟩)
                          case measure => simp [intOf]; omega
                        · have t2' : decide (-10000000 ≤ x) = false := by simpa using t2
                          have N9 := Lib.hid (show NearTo (againF N d i (p + 1)) false from fun h => by cases h)
                          clear t2
                          go_wp2_with fail
                          go_roundw
                          case rel => first | exact ⟨p + 1, _, _, _, _, by omega, rfl, rfl, by go_num, (by first | exact O9.out | exact O9.out.keep ((Keeps.refl _).drewN _)), N9.out⟩ | ((repeat apply Exists.intro); exact ⟨⟨p + 1, _, _, _, _, by omega, rfl, rfl, by go_num, (by first | exact O9.out | exact O9.out.keep ((Keeps.refl _).drewN _)), N9.out⟩, rfl⟩)
                          case measure => simp [intOf]; omega
                    · have t1' : decide (d i p < 1099511627776) = false := by simpa using t1
                      have HT := Lib.hid (show againF N d i (p + 1) = againF N d i p by rw [HA.out]; unfold NoB; rw [if_neg t1, List.append_nil])
                      have O9 := Lib.hid (show OwnB w5 _ _ (againF N d i (p + 1)) by rw [HT.out]; exact O6.out.keep hK)
                      have N9 := Lib.hid (show NearTo (againF N d i (p + 1)) nb by rw [HT.out]; exact HN.out)
                      clear HA t1 HT
                      go_wp2_with fail
                      go_quiet ((go_at_call 14; exact Calls.quiet_of_same (none_q _)))
                      go_wp2_with fail
                      go_roundw
                      case rel => first | exact ⟨p + 1, _, _, _, _, by omega, rfl, rfl, by go_num, (by first | exact O9.out | exact O9.out.keep ((Keeps.refl _).drewN _)), N9.out⟩ | ((repeat apply Exists.intro); exact ⟨⟨p + 1, _, _, _, _, by omega, rfl, rfl, by go_num, (by first | exact O9.out | exact O9.out.keep ((Keeps.refl _).drewN _)), N9.out⟩, rfl⟩)
                      case measure => simp [intOf]; omega
              · have e' : ((i : Int) == (p : Int)) = false := by simp; omega
                clear e
                go_wp2_with fail
                go_quiet ((go_at_call 14; exact Calls.quiet_of_same (none_q _)))
                have K6 := Lib.hid (HO.out.2.drewN nq)
                have O6 := Lib.hid (HO.out.keep ((Keeps.refl _).drewN nq))
                clear r0 x0 x1 hcmp e' HO
                generalize World.drewN _ _ = W6 at *
                go_wp2_with fail
                go_loopw [13] (fun k wr => ∃ j : Nat, j ≤ N ∧ k = .int .i64 (j : Int) ∧ Keeps W6 wr) (fun k _ => N - (intOf k).toNat)
                case atStart => exact ⟨0, by omega, rfl, Keeps.refl _⟩
                case round =>
                  obtain ⟨j, hj, rfl, hK⟩ := hrel
                  obtain ⟨r0, r1⟩ := CEL.out _ (K6.out.trans hK) i hiN
                  have x1 := r1 p hpN
                  by_cases hjN : j < N
                  · obtain ⟨s0, s1⟩ := CEL.out _ (K6.out.trans hK) p hpN
                    have x2 := r1 j hjN
                    have x3 := s1 j hjN
                    clear r1 s1
                    have hjj : (j : Int) < (N : Int) := by omega
                    have hj00 : (0 : Int) ≤ (j : Int) := by omega
                    have hjw : IntKind.i64.wrap ((j : Int) + 1) = (j : Int) + 1 := IntWalk.i64_in _ (by omega)
                    have g1 := HBD.out i p
                    have g2 := HBD.out p j
                    have g3 := HBD.out i j
                    have tri : d i p ≠ NoB → d p j ≠ NoB → d i j ≤ d i p + d p j := fun h1 h2 => (HD.out.full i j _ hiN ((HD.out.sound i p h1).trans (HD.out.sound p j h2))).2.2
                    generalize d i p = x at *
                    generalize d p j = y at *
                    generalize d i j = z at *
                    by_cases t1 : x < 1099511627776
                    · have t1' : decide (x < 1099511627776) = true := by simpa using t1
                      by_cases t2 : y < 1099511627776
                      · have t2' : decide (y < 1099511627776) = true := by simpa using t2
                        have hsw : IntKind.i64.wrap (x + y) = x + y := IntWalk.i64_in _ (by unfold NoB at *; omega)
                        have hcmp : decide (x + y < z) = false := by unfold NoB at *; simp; omega
                        clear tri g1 g2 g3 t1 t2
                        go_wp2_with fail
                        go_quiet ((go_at_call 14; exact Calls.quiet_of_same (none_q _)))
                        go_wp2_with fail
                        go_roundw
                        case rel => first | exact ⟨j + 1, by omega, by go_num, hK.drewN _⟩ | ((repeat apply Exists.intro); exact ⟨⟨j + 1, by omega, by go_num, hK.drewN _⟩, rfl⟩)
                        case measure => simp [intOf]; omega
                      · have t2' : decide (y < 1099511627776) = false := by simpa using t2
                        clear tri g1 g2 g3 t1 t2
                        go_wp2_with fail
                        go_quiet ((go_at_call 14; exact Calls.quiet_of_same (none_q _)))
                        go_wp2_with fail
                        go_roundw
                        case rel => first | exact ⟨j + 1, by omega, by go_num, hK.drewN _⟩ | ((repeat apply Exists.intro); exact ⟨⟨j + 1, by omega, by go_num, hK.drewN _⟩, rfl⟩)
                        case measure => simp [intOf]; omega
                    · have t1' : decide (x < 1099511627776) = false := by simpa using t1
                      clear tri g1 g2 g3 t1
                      go_wp2_with fail
                      go_quiet ((go_at_call 14; exact Calls.quiet_of_same (none_q _)))
                      go_wp2_with fail
                      go_roundw
                      case rel => first | exact ⟨j + 1, by omega, by go_num, hK.drewN _⟩ | ((repeat apply Exists.intro); exact ⟨⟨j + 1, by omega, by go_num, hK.drewN _⟩, rfl⟩)
                      case measure => simp [intOf]; omega
                  · clear r1
                    have HA := Lib.hid (again_next N d i p)
                    have HL := Lib.hid (again_len d hN12 (Nat.le_of_lt hiN) (Nat.le_of_lt hpN))
                    by_cases t1 : d i p < 1099511627776
                    · have t1' : decide (d i p < 1099511627776) = true := by simpa using t1
                      have HT := Lib.hid (show againF N d i (p + 1) = againF N d i p ++ [⟨(i : Int), (p : Int), d i p⟩] by rw [HA.out]; unfold NoB; rw [if_pos t1])
                      clear HA t1
                      have HO := Lib.hid (O6.out.keep hK)
                      obtain ⟨x, hx⟩ : ∃ x, d i p = x := ⟨_, rfl⟩
                      rw [hx] at x1 t1'
                      have HX := Lib.hid hx
                      clear hx
                      go_wp2_with fail
                      go_quiet ((go_at_call 14; exact Calls.quiet_of_same (none_q _)))
                      have KD := Lib.hid (K6.out.trans (hK.drewN nq))
                      have OD := Lib.hid (HO.out.keep ((Keeps.refl _).drewN nq))
                      clear hK HO O6 K6 t1' r0 x1
                      generalize World.drewN _ _ = W7 at *
                      obtain ⟨r0, r1⟩ := CEL.out _ KD.out i hiN
                      have x1 := r1 p hpN
                      rw [HX.out] at x1
                      clear r1
                      have H2 := Lib.hid (OD.out.keep ((Keeps.refl W7).alloc (.cells #[.int .i64 (i : Int), .int .i64 (p : Int), .int .i64 x] 32)))
                      have X2 := Lib.hid (bnds_one W7 (i : Int) (p : Int) x)
                      have L1 := Lib.hid (show (againF N d i p).length + [(⟨(i : Int), (p : Int), x⟩ : Bd)].length ≤ 1000000 by have := HL.out; simp; omega)
                      have ONE := Lib.hid (show 1 = [(⟨(i : Int), (p : Int), x⟩ : Bd)].length from rfl)
                      clear OD
                      go_upto_region 31 with (at_builtin; refine (wpList_app rfl (.tmp 170) (.tmp 181) rfl _ _ rfl H2.out _ _ _ [⟨(i : Int), (p : Int), x⟩] rfl X2.out ONE L1 ?_); intro A8 n8 c8 w8 ho8; have O8 := Lib.hid ho8; clear ho8 H2 X2)
                      clear r0 x1 KD
                      obtain ⟨r0, r1⟩ := CEL.out _ O8.out.2 i hiN
                      have x1 := r1 p hpN
                      rw [HX.out] at x1
                      clear r1
                      have hO9 := O8.out
                      rw [← HX.out, ← HT.out] at hO9
                      have O9 := Lib.hid hO9
                      clear hO9
                      cases nb
                      · have N9 := Lib.hid (show NearTo (againF N d i (p + 1)) false from fun h => by cases h)
                        go_wp2_with fail
                        go_roundw
                        case rel => first | exact ⟨p + 1, _, _, _, _, by omega, rfl, rfl, by go_num, (by first | exact O9.out | exact O9.out.keep ((Keeps.refl _).drewN _)), N9.out⟩ | ((repeat apply Exists.intro); exact ⟨⟨p + 1, _, _, _, _, by omega, rfl, rfl, by go_num, (by first | exact O9.out | exact O9.out.keep ((Keeps.refl _).drewN _)), N9.out⟩, rfl⟩)
                        case measure => simp [intOf]; omega
                      · by_cases t2 : -10000000 ≤ x
                        · have t2' : decide (-10000000 ≤ x) = true := by simpa using t2
                          have N9 := Lib.hid (show NearTo (againF N d i (p + 1)) (decide (x ≤ 10000000)) by rw [HT.out, HX.out]; exact near_next HN.out _ _ _ (fun h => ⟨rfl, t2, by simpa using h⟩))
                          clear t2
                          go_wp2_with fail
                          go_roundw
                          case rel => first | exact ⟨p + 1, _, _, _, _, by omega, rfl, rfl, by go_num, (by first | exact O9.out | exact O9.out.keep ((Keeps.refl _).drewN _)), N9.out⟩ | ((repeat apply Exists.intro); exact ⟨⟨p + 1, _, _, _, _, by omega, rfl, rfl, by go_num, (by first | exact O9.out | exact O9.out.keep ((Keeps.refl _).drewN _)), N9.out⟩, rfl⟩)
                          case measure => simp [intOf]; omega
                        · have t2' : decide (-10000000 ≤ x) = false := by simpa using t2
                          have N9 := Lib.hid (show NearTo (againF N d i (p + 1)) false from fun h => by cases h)
                          clear t2
                          go_wp2_with fail
                          go_roundw
                          case rel => first | exact ⟨p + 1, _, _, _, _, by omega, rfl, rfl, by go_num, (by first | exact O9.out | exact O9.out.keep ((Keeps.refl _).drewN _)), N9.out⟩ | ((repeat apply Exists.intro); exact ⟨⟨p + 1, _, _, _, _, by omega, rfl, rfl, by go_num, (by first | exact O9.out | exact O9.out.keep ((Keeps.refl _).drewN _)), N9.out⟩, rfl⟩)
                          case measure => simp [intOf]; omega
                    · have t1' : decide (d i p < 1099511627776) = false := by simpa using t1
                      have HT := Lib.hid (show againF N d i (p + 1) = againF N d i p by rw [HA.out]; unfold NoB; rw [if_neg t1, List.append_nil])
                      have O9 := Lib.hid (show OwnB w5 _ _ (againF N d i (p + 1)) by rw [HT.out]; exact O6.out.keep hK)
                      have N9 := Lib.hid (show NearTo (againF N d i (p + 1)) nb by rw [HT.out]; exact HN.out)
                      clear HA t1 HT
                      go_wp2_with fail
                      go_quiet ((go_at_call 14; exact Calls.quiet_of_same (none_q _)))
                      go_wp2_with fail
                      go_roundw
                      case rel => first | exact ⟨p + 1, _, _, _, _, by omega, rfl, rfl, by go_num, (by first | exact O9.out | exact O9.out.keep ((Keeps.refl _).drewN _)), N9.out⟩ | ((repeat apply Exists.intro); exact ⟨⟨p + 1, _, _, _, _, by omega, rfl, rfl, by go_num, (by first | exact O9.out | exact O9.out.keep ((Keeps.refl _).drewN _)), N9.out⟩, rfl⟩)
                      case measure => simp [intOf]; omega
            · go_wp2_with fail
              obtain rfl : p = N := by omega
              have h1 := HO.out
              have h2 := HN.out
              rw [again_row] at h1 h2
              go_roundw
              case rel => first | exact ⟨i + 1, _, _, _, _, by omega, rfl, rfl, by go_num, h1, h2⟩ | ((repeat apply Exists.intro); exact ⟨⟨i + 1, _, _, _, _, by omega, rfl, rfl, by go_num, h1, h2⟩, rfl⟩)
              case measure => simp [intOf]; omega
        · obtain rfl : i = N := by omega
          cases nb
          · go_wp2_with fail
            go_ret
            exact bool_post rfl (K5.out.trans HO.out.2)
          · have HC2 := Lib.hid (again_close HV.out hN12 HD.out HNN.out (fun a b => (HBD.out a b).1) (HN.out rfl))
            obtain ⟨hb0, hb1⟩ := HO.out.bnds
            have HB := Lib.hid hb0; have HL := Lib.hid hb1
            have Q6 := Lib.hid (Q5.out.keep HO.out.2)
            have K6 := Lib.hid (K5.out.trans HO.out.2)
            have hlN : (matF i d).length = i := matF_len i d
            clear HO HN HBD hb0 hb1 Q5 K5
            go_wp2_with (first | (go_at_call 12; (with_reducible refine (close_to HC2 A' n' c' _ HB.out HL).mono ?_); rintro e w6 ⟨B2, d2, rfl, q2, hk6⟩; have HQ2 := Lib.hid q2; clear q2; rw [hlN] at *) | (go_at_call 15; (with_reducible refine (rows_eq i d B2 B1 d2 d1 _ HQ2.out (by rw [HLS.out]; exact Q6.out.keep hk6) hN12).mono ?_); rintro e w7 ⟨rfl, hk7⟩))
            go_ret
            exact bool_post rfl ((K6.out.trans hk6).trans hk7)
end Go.Proofs.Ytfdegdfijjfgbaa
