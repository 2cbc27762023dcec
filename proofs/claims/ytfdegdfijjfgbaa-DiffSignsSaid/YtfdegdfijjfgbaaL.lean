import Derived.Test.YtfdegdfijjfgbaaK
import Derived.Deep.CutRange
import Derived.Test.YtfdegdfijjfgbaaRows
import Derived.WalkKit
import Derived.WalkSpells
import Derived.WalkLawsBesides
import Derived.Laws.EntriesVeiled
import Derived.ProofKit
import Derived.OpenShut
import Derived.Lib.Hide
import Derived.BigQuiet
import Derived.Deep.QuietTactic
import Derived.Below
import Derived.Laws.OwnMore
import Derived.Deep.AppendLies
import Derived.Deep.Draws
import Derived.Laws.Rows
import Derived.Maps.AppendAt
import Derived.RegionTactic
import Derived.OwnWalk
import Derived.Deep.RegionHeld3
namespace Go.Proofs.Ytfdegdfijjfgbaa
open Go.ChangeShapes Go.WideShapes Go.ChangeAt Go.RowKit
set_option linter.unusedSimpArgs false
set_option linter.unusedVariables false
theorem sig_all {l : List Bd} (h : ∀ b ∈ l, 0 ≤ b.m) : NoNeg (Edge l) := by
  have : ∀ i j c, Wk (Edge l) i j c → 0 ≤ c := by
    intro i j c hw
    induction hw with
    | nil => exact Int.le_refl _
    | snoc _ e ih => obtain ⟨b, hb, _, _, rfl⟩ := e; have := h b hb; omega
  exact fun i c hw => this i i c hw
theorem edge_of {n : Int} {l : List Bd} (hv : validB n l = true) {b : Bd} (hb : b ∈ l) : Edge l b.f.toNat b.t.toNat b.m := by
  have := valid_mem hv hb
  exact ⟨b, hb, by omega, by omega, rfl⟩
theorem circ1 {n : Int} {l : List Bd} (hv : validB n l = true) {a : Bd} (ha : a ∈ l) (e : a.f = a.t) (h : a.m < 0) : ¬ NoNeg (Edge l) := fun hn => by
  have h1 := Wk.one (edge_of hv ha)
  rw [e] at h1
  have := hn _ _ h1; omega
theorem circ2 {n : Int} {l : List Bd} (hv : validB n l = true) {a b : Bd} (ha : a ∈ l) (hb : b ∈ l) (e : a.t = b.f) (e2 : b.t = a.f) (h : a.m + b.m < 0) : ¬ NoNeg (Edge l) := fun hn => by
  have h1 := Wk.one (edge_of hv ha)
  have h2 := Wk.one (edge_of hv hb)
  rw [← e, e2] at h2
  have := hn _ _ (h1.trans h2); omega
theorem circ3 {n : Int} {l : List Bd} (hv : validB n l = true) {a b c : Bd} (ha : a ∈ l) (hb : b ∈ l) (hc : c ∈ l) (e : a.t = b.f) (e2 : b.t = c.f) (e3 : c.t = a.f) (h : a.m + b.m + c.m < 0) : ¬ NoNeg (Edge l) := fun hn => by
  have h1 := Wk.one (edge_of hv ha)
  have h2 := Wk.one (edge_of hv hb)
  have h3 := Wk.one (edge_of hv hc)
  rw [← e] at h2
  rw [← e2, e3] at h3
  have := hn _ _ ((h1.trans h2).trans h3); omega
def NegTo (l : List Bd) (k : Nat) (ng : Bool) : Prop := ng = false → ∀ b ∈ l.take k, 0 ≤ b.m
def CircTo (l : List Bd) (ci : Bool) : Prop := ci = true → ¬ NoNeg (Edge l)
theorem NegTo.next {l : List Bd} {k : Nat} {ng : Bool} {b : Bd} (h : NegTo l k ng) (hb : l[k]? = some b) (ng' : Bool) (hng : ng' = false → ng = false ∧ 0 ≤ b.m) : NegTo l (k + 1) ng' := fun hn x hx => by
  obtain ⟨h1, h2⟩ := hng hn
  rw [List.take_add_one, hb, List.mem_append] at hx
  rcases hx with hx | hx
  · exact h h1 x hx
  · simp at hx; subst hx; exact h2
set_option maxHeartbeats 8000000 in
set_option maxRecDepth 100000 in
theorem law_signs (n : Int) (l : List Bd) (A : Option Addr) (c : Nat) (w : World) (o : Bnds w w.heap.size A l) (len : l.length ≤ maxLen) :
    Calls Try.prog 7 #[.int .i64 n, .slice A l.length c] w (BoolPost true w) := by
  unfold maxLen at len
  obtain ⟨m, hm⟩ : ∃ m, m = l.length := ⟨_, rfl⟩
  rw [← hm] at len ⊢
  have HM := Lib.hid hm; have O := Lib.hid o
  clear o hm
  cases hf : fewB n l
  · have HF := Lib.hid hf; clear hf
    go_enter Try.func7, Try.ntmps7
    go_wp2_with (first | (go_at_call 9; (with_reducible refine (head_any _).mono ?_); rintro e w1 ⟨rfl, hk1⟩) | (go_at_call 10; (with_reducible refine (few_any n l A m c _ HM false HF).mono ?_); rintro e w2 ⟨rfl, hk2⟩))
    go_ret
    exact bool_post rfl (hk1.trans hk2)
  obtain ⟨f1, f2⟩ := fewB_spec hf
  have HF := Lib.hid hf; clear hf
  cases hv : validB n l
  · have HV := Lib.hid hv; clear hv
    go_enter Try.func7, Try.ntmps7
    go_wp2_with (first | (go_at_call 9; (with_reducible refine (head_any _).mono ?_); rintro e w1 ⟨rfl, hk1⟩) | (go_at_call 10; (with_reducible refine (few_any n l A m c _ HM true HF).mono ?_); rintro e w2 ⟨rfl, hk2⟩) | (go_at_call 11; (with_reducible refine (rvalid_is n l A m c _ (O.out.keep (hk1.trans hk2)) (by omega) HM false HV).mono ?_); rintro e w3 ⟨rfl, hk3⟩))
    go_ret
    exact bool_post rfl ((hk1.trans hk2).trans hk3)
  obtain ⟨b0, d, hs, hc⟩ := close_law hv f1 (by omega)
  obtain ⟨ls, hls⟩ : ∃ ls, (if b0 = 0 then matF n.toNat d else []) = ls := ⟨_, rfl⟩
  have HLS := Lib.hid hls
  clear hls
  have HV := Lib.hid hv; have HS := Lib.hid hs; have HC := Lib.hid hc
  have f3 : l.length ≤ 400 := by omega
  have F2 := Lib.hid f2
  have hm40 : m ≤ 40 := by rw [HM.out]; exact f2
  clear hv hs hc f2
  go_enter Try.func7, Try.ntmps7
  go_wp2_with (first | (go_at_call 9; (with_reducible refine (head_any _).mono ?_); rintro e w1 ⟨rfl, hk1⟩) | (go_at_call 10; (with_reducible refine (few_any n l A m c _ HM true HF).mono ?_); rintro e w2 ⟨rfl, hk2⟩) | (go_at_call 11; (with_reducible refine (rvalid_is n l A m c _ (O.out.keep (hk1.trans hk2)) f3 HM true HV).mono ?_); rintro e w3 ⟨rfl, hk3⟩) | (go_at_call 12; (with_reducible refine (close_call HC HLS A m c _ (O.out.keep ((hk1.trans hk2).trans hk3)) HM).mono ?_); rintro e w4 ⟨B1, d1, rfl, q1, hk4⟩))
  have K4 := Lib.hid (((hk1.trans hk2).trans hk3).trans hk4)
  have f4 : l.length ≤ 9223372036854775807 := by omega
  clear hk1 hk2 hk3 hk4 q1 f3
  go_loopw [8, 9, 10] (fun v8 v9 i wr => ∃ (k : Nat) (ng ci : Bool), k ≤ m ∧ v8 = .bool ng ∧ v9 = .bool ci ∧ i = .int .i64 (k : Int) ∧ NegTo l k ng ∧ CircTo l ci ∧ Keeps w wr) (fun _ _ i _ => m - (intOf i).toNat)
  case atStart => exact ⟨0, false, false, by omega, rfl, rfl, rfl, (fun _ b hb => by simp at hb), (fun h => by cases h), K4.out⟩
  case round =>
    clear K4
    obtain ⟨k, ng, ci, hk, rfl, rfl, rfl, hN, hC, hK⟩ := hrel
    have HN := Lib.hid hN; have HCI := Lib.hid hC; clear hN hC
    by_cases hkm : k < m
    · have hok : l[k]? = some (l[k]'(by rw [← HM.out]; exact hkm)) := List.getElem?_eq_getElem _
      generalize l[k]'(by rw [← HM.out]; exact hkm) = b at hok
      obtain ⟨bb, off, rfl, hb, c0, c1, c2⟩ := (O.out.keep hK) k b hok
      have HO := Lib.hid hok
      have HB := Lib.hid (List.mem_of_getElem? hok)
      clear hok
      have hki : (k : Int) < (m : Int) := by omega
      have hk00 : (0 : Int) ≤ (k : Int) := by omega
      have hkw : IntKind.i64.wrap ((k : Int) + 1) = (k : Int) + 1 := IntWalk.i64_in _ (by omega)
      have vb := Lib.hid (valid_mem HV.out HB.out)
      obtain ⟨bf, bt, bm⟩ := b
      simp only at c0 c1 c2
      go_upto_region 10 with fail
      go_cut [8] from 31 to 165 (fun v wx => ∃ ng' : Bool, v = .bool ng' ∧ NegTo l (k + 1) ng' ∧ Keeps w wx)
      case first =>
        cases ng
        · have HT := Lib.hid (HN.out.next HO.out (decide (bm < 0)) (fun h => ⟨rfl, by simp at h; exact h⟩))
          go_wp2_with fail
          go_meet
          case rel => exact ⟨_, rfl, HT.out, hK⟩
        · have HT := Lib.hid (HN.out.next HO.out true (fun h => by cases h))
          go_wp2_with fail
          go_meet
          case rel => exact ⟨_, rfl, HT.out, hK⟩
      case rest =>
        obtain ⟨ng', rfl, hN', hK1⟩ := hcut
        have HN' := Lib.hid hN'
        clear hN' c0 c1 c2 hb hK HN
        have cel : ∀ W, Keeps w W → W.cell? ⟨bb, off + k * 3, none⟩ = some (.int .i64 bf) ∧ W.cell? ⟨bb, off + k * 3 + 1, none⟩ = some (.int .i64 bt) ∧ W.cell? ⟨bb, off + k * 3 + 2, none⟩ = some (.int .i64 bm) := fun W hW => by
          obtain ⟨bb', off', e, hb, c0, c1, c2⟩ := (O.out.keep hW) k _ HO.out
          cases e
          exact ⟨c0, c1, c2⟩
        have CEL := Lib.hid cel
        clear cel
        go_upto_region 11 with fail
        go_cut [9] from 31 to 165 (fun v wx => ∃ ci' : Bool, v = .bool ci' ∧ CircTo l ci' ∧ Keeps w wx)
        case first =>
          obtain ⟨c0, c1, c2⟩ := CEL.out _ hK1
          cases ci
          · by_cases e : bf = bt
            · have e' : (bf == bt) = true := by simpa using e
              have HT := Lib.hid (show CircTo l (decide (bm < 0)) from fun h => circ1 HV.out HB.out e (by simpa using h))
              clear e
              go_quiet (fail)
              go_wp2_with fail
              go_meet
              case rel => exact ⟨_, rfl, HT.out, hK1.drewN _⟩
            · have e' : (bf == bt) = false := by simpa using e
              go_quiet (fail)
              go_wp2_with fail
              go_meet
              case rel => exact ⟨_, rfl, HCI.out, hK1.drewN _⟩
          · go_quiet (fail)
            go_wp2_with fail
            go_meet
            case rel => exact ⟨_, rfl, HCI.out, hK1.drewN _⟩
        case rest =>
          obtain ⟨ci', rfl, hC', hK2⟩ := hcut
          have HC' := Lib.hid hC'
          clear hC' HCI hK1
          go_wp2_with fail
          go_loopw [9, 11] (fun v9 i wr => ∃ (j : Nat) (ci : Bool), j ≤ m ∧ v9 = .bool ci ∧ i = .int .i64 (j : Int) ∧ CircTo l ci ∧ Keeps w wr) (fun _ i _ => m - (intOf i).toNat)
          case atStart => exact ⟨0, _, by omega, rfl, rfl, HC'.out, hK2⟩
          case round =>
            clear HC' hK2
            obtain ⟨j, ci2, hj, rfl, rfl, hC2, hK3⟩ := hrel
            have HC2 := Lib.hid hC2; clear hC2
            by_cases hjm : j < m
            · have hok2 : l[j]? = some (l[j]'(by rw [← HM.out]; exact hjm)) := List.getElem?_eq_getElem _
              generalize l[j]'(by rw [← HM.out]; exact hjm) = b2 at hok2
              have HB2 := Lib.hid (List.mem_of_getElem? hok2)
              obtain ⟨b2f, b2t, b2m⟩ := b2
              have cel2 : ∀ W, Keeps w W → W.cell? ⟨bb, off + j * 3, none⟩ = some (.int .i64 b2f) ∧ W.cell? ⟨bb, off + j * 3 + 1, none⟩ = some (.int .i64 b2t) ∧ W.cell? ⟨bb, off + j * 3 + 2, none⟩ = some (.int .i64 b2m) := fun W hW => by
                obtain ⟨bb', off', e, hb, c0, c1, c2⟩ := (O.out.keep hW) j _ hok2
                cases e
                exact ⟨c0, c1, c2⟩
              have CEL2 := Lib.hid cel2
              clear cel2 hok2
              have hji : (j : Int) < (m : Int) := by omega
              have hj00 : (0 : Int) ≤ (j : Int) := by omega
              have hjw : IntKind.i64.wrap ((j : Int) + 1) = (j : Int) + 1 := IntWalk.i64_in _ (by omega)
              have vb2 := Lib.hid (valid_mem HV.out HB2.out)
              obtain ⟨c0, c1, c2⟩ := CEL.out _ hK3
              obtain ⟨d0, d1, d2⟩ := CEL2.out _ hK3
              by_cases e : bt = b2f
              · have e' : (bt != b2f) = false := by simpa using e
                have EE := Lib.hid e
                clear e
                go_wp2_with fail
                go_quiet (fail)
                have hK4 := hK3.drewN nq
                clear c0 c1 c2 d0 d1 d2 hK3
                generalize World.drewN _ _ = W4 at *
                go_upto_region 16 with fail
                go_cut [9] from 68 to 165 (fun v wx => ∃ ci' : Bool, v = .bool ci' ∧ CircTo l ci' ∧ Keeps w wx)
                case first =>
                  obtain ⟨c0, c1, c2⟩ := CEL.out _ hK4
                  obtain ⟨d0, d1, d2⟩ := CEL2.out _ hK4
                  cases ci2
                  · by_cases e : b2t = bf
                    · have e' : (b2t == bf) = true := by simpa using e
                      have hw : IntKind.i64.wrap (bm + b2m) = bm + b2m := by have h1 := vb.out; have h2 := vb2.out; (try dsimp only at h1 h2); exact IntWalk.i64_in _ (by omega)
                      have HT := Lib.hid (show CircTo l (decide (bm + b2m < 0)) from fun h => circ2 HV.out HB.out HB2.out EE.out e (by simpa using h))
                      clear e
                      go_quiet (fail)
                      go_wp2_with fail
                      go_meet
                      case rel => exact ⟨_, rfl, HT.out, hK4.drewN _⟩
                    · have e' : (b2t == bf) = false := by simpa using e
                      go_quiet (fail)
                      go_wp2_with fail
                      go_meet
                      case rel => exact ⟨_, rfl, HC2.out, hK4.drewN _⟩
                  · go_quiet (fail)
                    go_wp2_with fail
                    go_meet
                    case rel => exact ⟨_, rfl, HC2.out, hK4.drewN _⟩
                case rest =>
                  obtain ⟨ci3, rfl, hC3, hK5⟩ := hcut
                  have HC3 := Lib.hid hC3
                  clear hC3 HC2 hK4
                  go_wp2_with fail
                  go_loopw [9, 12] (fun v9 i wr => ∃ (q : Nat) (ci : Bool), q ≤ m ∧ v9 = .bool ci ∧ i = .int .i64 (q : Int) ∧ CircTo l ci ∧ Keeps w wr) (fun _ i _ => m - (intOf i).toNat)
                  case atStart => exact ⟨0, _, by omega, rfl, rfl, HC3.out, hK5⟩
                  case round =>
                    clear HC3 hK5
                    obtain ⟨q, ci4, hq, rfl, rfl, hC4, hK6⟩ := hrel
                    have HC4 := Lib.hid hC4; clear hC4
                    by_cases hqm : q < m
                    · have hok3 : l[q]? = some (l[q]'(by rw [← HM.out]; exact hqm)) := List.getElem?_eq_getElem _
                      generalize l[q]'(by rw [← HM.out]; exact hqm) = b3 at hok3
                      have HB3 := Lib.hid (List.mem_of_getElem? hok3)
                      obtain ⟨b3f, b3t, b3m⟩ := b3
                      have cel3 : ∀ W, Keeps w W → W.cell? ⟨bb, off + q * 3, none⟩ = some (.int .i64 b3f) ∧ W.cell? ⟨bb, off + q * 3 + 1, none⟩ = some (.int .i64 b3t) ∧ W.cell? ⟨bb, off + q * 3 + 2, none⟩ = some (.int .i64 b3m) := fun W hW => by
                        obtain ⟨bb', off', e, hb, c0, c1, c2⟩ := (O.out.keep hW) q _ hok3
                        cases e
                        exact ⟨c0, c1, c2⟩
                      have CEL3 := Lib.hid cel3
                      clear cel3 hok3
                      have hqi : (q : Int) < (m : Int) := by omega
                      have hq00 : (0 : Int) ≤ (q : Int) := by omega
                      have hqw : IntKind.i64.wrap ((q : Int) + 1) = (q : Int) + 1 := IntWalk.i64_in _ (by omega)
                      have vb3 := Lib.hid (valid_mem HV.out HB3.out)
                      go_wp2_with fail
                      obtain ⟨c0, c1, c2⟩ := CEL.out _ hK6
                      obtain ⟨d0, d1, d2⟩ := CEL2.out _ hK6
                      obtain ⟨g0, g1, g2⟩ := CEL3.out _ hK6
                      cases ci4
                      · by_cases e : b2t = b3f
                        · have e' : (b2t == b3f) = true := by simpa using e
                          by_cases f : b3t = bf
                          · have f' : (b3t == bf) = true := by simpa using f
                            have hw : IntKind.i64.wrap (bm + b2m) = bm + b2m := by have h1 := vb.out; have h2 := vb2.out; (try dsimp only at h1 h2); exact IntWalk.i64_in _ (by omega)
                            have hw2 : IntKind.i64.wrap (bm + b2m + b3m) = bm + b2m + b3m := by have h1 := vb.out; have h2 := vb2.out; have h3 := vb3.out; (try dsimp only at h1 h2 h3); exact IntWalk.i64_in _ (by omega)
                            have HT := Lib.hid (show CircTo l (decide (bm + b2m + b3m < 0)) from fun h => circ3 HV.out HB.out HB2.out HB3.out EE.out e f (by simpa using h))
                            clear e f
                            go_quiet (fail)
                            go_wp2_with fail
                            go_roundw
                            case rel => first | exact ⟨q + 1, _, by omega, rfl, by go_num, HT.out, hK6.drewN _⟩ | ((repeat apply Exists.intro); exact ⟨⟨q + 1, _, by omega, rfl, by go_num, HT.out, hK6.drewN _⟩, rfl⟩)
                            case measure => simp [intOf]; omega
                          · have f' : (b3t == bf) = false := by simpa using f
                            clear e
                            go_quiet (fail)
                            go_wp2_with fail
                            go_roundw
                            case rel => first | exact ⟨q + 1, _, by omega, rfl, by go_num, HC4.out, hK6.drewN _⟩ | ((repeat apply Exists.intro); exact ⟨⟨q + 1, _, by omega, rfl, by go_num, HC4.out, hK6.drewN _⟩, rfl⟩)
                            case measure => simp [intOf]; omega
                        · have e' : (b2t == b3f) = false := by simpa using e
                          go_quiet (fail)
                          go_wp2_with fail
                          go_roundw
                          case rel => first | exact ⟨q + 1, _, by omega, rfl, by go_num, HC4.out, hK6.drewN _⟩ | ((repeat apply Exists.intro); exact ⟨⟨q + 1, _, by omega, rfl, by go_num, HC4.out, hK6.drewN _⟩, rfl⟩)
                          case measure => simp [intOf]; omega
                      · go_quiet (fail)
                        go_wp2_with fail
                        go_roundw
                        case rel => first | exact ⟨q + 1, _, by omega, rfl, by go_num, HC4.out, hK6.drewN _⟩ | ((repeat apply Exists.intro); exact ⟨⟨q + 1, _, by omega, rfl, by go_num, HC4.out, hK6.drewN _⟩, rfl⟩)
                        case measure => simp [intOf]; omega
                    · go_wp2_with fail
                      go_roundw
                      case rel => first | exact ⟨j + 1, _, by omega, rfl, by go_num, HC4.out, hK6⟩ | ((repeat apply Exists.intro); exact ⟨⟨j + 1, _, by omega, rfl, by go_num, HC4.out, hK6⟩, rfl⟩)
                      case measure => simp [intOf]; omega
              · have e' : (bt != b2f) = true := by simpa using e
                go_wp2_with fail
                go_quiet (fail)
                go_wp2_with fail
                go_roundw
                case rel => first | exact ⟨j + 1, _, by omega, rfl, by go_num, HC2.out, hK3.drewN _⟩ | ((repeat apply Exists.intro); exact ⟨⟨j + 1, _, by omega, rfl, by go_num, HC2.out, hK3.drewN _⟩, rfl⟩)
                case measure => simp [intOf]; omega
            · go_wp2_with fail
              go_roundw
              case rel => first | exact ⟨k + 1, _, _, by omega, rfl, rfl, by go_num, HN'.out, HC2.out, hK3⟩ | ((repeat apply Exists.intro); exact ⟨⟨k + 1, _, _, by omega, rfl, rfl, by go_num, HN'.out, HC2.out, hK3⟩, rfl⟩)
              case measure => simp [intOf]; omega
    · have hng : ng = false → NoNeg (Edge l) := fun h => sig_all fun b hb => HN.out h b (by rw [List.take_of_length_le (by have := HM.out; omega)]; exact hb)
      have hs := HS.out
      have hci := HCI.out
      unfold CloseSays at hs
      unfold CircTo at hci
      have hcase : (b0 = 0 ∧ ci = false) ∨ (b0 = 240 ∧ ng = true) := by
        rcases hs with ⟨h1, h2, _⟩ | ⟨h1, h2⟩
        · left; refine ⟨h1, ?_⟩
          cases ci
          · rfl
          · exact absurd h2 (hci rfl)
        · right; refine ⟨h1, ?_⟩
          cases ng
          · exact absurd (hng rfl) h2
          · rfl
      clear hs hci hng HS HC HLS
      rcases hcase with ⟨rfl, rfl⟩ | ⟨rfl, rfl⟩
      · cases ng
        · go_wp2_with fail
          go_ret
          exact bool_post rfl hK
        · go_wp2_with fail
          go_ret
          exact bool_post rfl hK
      · cases ci
        · go_wp2_with fail
          go_ret
          exact bool_post rfl hK
        · go_wp2_with fail
          go_ret
          exact bool_post rfl hK
end Go.Proofs.Ytfdegdfijjfgbaa
