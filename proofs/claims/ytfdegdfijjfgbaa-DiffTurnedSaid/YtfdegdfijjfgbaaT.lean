import Derived.Test.YtfdegdfijjfgbaaQ
import Derived.Deep.CutRange
import Derived.StillTailTactics
import Derived.Test.YtfdegdfijjfgbaaRows
import Derived.WalkKit
import Derived.WalkSpells
import Derived.WalkLawsBesides
import Derived.Laws.EntriesVeiled
import Derived.ProofKit
import Derived.OpenShut
import Derived.Lib.Hide
import Derived.BigQuiet
import Derived.Deep.QuietTactic
import Derived.Below
import Derived.Laws.OwnMore
import Derived.Deep.AppendLies
import Derived.Deep.Draws
import Derived.Laws.Rows
import Derived.Maps.AppendAt
import Derived.RegionTactic
import Derived.OwnWalk
import Derived.Deep.RegionHeld3
namespace Go.Proofs.Ytfdegdfijjfgbaa
open Go.ChangeShapes Go.WideShapes Go.ChangeAt Go.RowKit
set_option linter.unusedSimpArgs false
set_option linter.unusedVariables false
theorem step_app {w0 w : World} {ops : Array Oper} {o : Oper} {a : Act} {K : Act → World → Prop} {Q : Exit → Act → World → Prop} {E : Prop} (hgd : o.guard = none) (s x : Operand)
    (ho : o.op = .call { callee := .builtin .append, args := #[s, x], argTypes := #[22, 22] })
    (v : Value) (l : List Bd) (hs : a.eval s = v) (hown : OwnB w0 w v l)
    (A : Option Addr) (m c : Nat) (l2 : List Bd) (hx : a.eval x = .slice A m c) (hr : Bnds w w.heap.size A l2) (hm : Hid (m = l2.length)) (hle : Hid (l.length + l2.length ≤ 1000000))
    (h : ∀ A' n' c' w', OwnB w0 w' (.slice A' n' c') (l ++ l2) → K (a.put o.dst (.slice A' n' c')) w') : if Region.wanted o (yielded ops a.tmps) = true then Oper.wp Try.prog o a w K Q else E := by
  obtain ⟨i0, hi0, hz0, hz1, hz2⟩ := info32
  have hle' := hle.out
  have hm' := hm.out
  subst hm'
  refine step_append_any w hgd s x 22 ho w0.heap.size 32 i0 _ 3 24 Try.underlying22 hi0 hz0 hz1 hz2 rfl (by decide) v l.length (bdCells l) hs hown.1 w.heap.size A l2.length c (bdCells l2) hx hr.reads (bd_one l2) (by unfold maxLen; omega) (by omega) hown.2.size ?_
  intro v' w' h1 h2 _
  obtain ⟨A', c', rfl⟩ := own_slice h1
  refine h A' _ c' w' ⟨?_, grown_keeps hown.2 h2 (fun k hk => (own_lt hown.1 hk).1)⟩
  rw [← List.length_append, ← bdCells_append] at h1
  rw [← List.length_append]
  exact h1
theorem law_turned_bad (n most : Int) (l : List Bd) (A : Option Addr) (m c : Nat) (v : List Int) (B : Option Addr) (p c' : Nat) (w : World) (O : Hid (Bnds w w.heap.size A l)) (HM : Hid (m = l.length)) (f2 : l.length ≤ 400) (HF : Hid (fewB n l = true)) (HV : Hid (validB n l = true))
    (h : decide (most < -10000000) = true ∨ (decide (most < -10000000) = false ∧ decide (10000000 < most) = true) ∨ (decide (most < -10000000) = false ∧ decide (10000000 < most) = false ∧ (n == 0) = true) ∨ (decide (most < -10000000) = false ∧ decide (10000000 < most) = false ∧ (n == 0) = false ∧ ((p : Int) != n) = true)) :
    Calls Try.prog 8 #[.int .i64 n, .int .i64 most, .slice A m c, .slice B p c'] w (BoolPost true w) := by
  rcases h with h1 | ⟨h1, h2⟩ | ⟨h1, h2, h3⟩ | ⟨h1, h2, h3, h4⟩
  all_goals
    go_enter Try.func8, Try.ntmps8
    go_wp2_with (first | (go_at_call 9; (with_reducible refine (head_any _).mono ?_); rintro e w1 ⟨rfl, hk1⟩) | (go_at_call 10; (with_reducible refine (few_any n l A m c _ HM true HF).mono ?_); rintro e w2 ⟨rfl, hk2⟩) | (go_at_call 11; (with_reducible refine (rvalid_is n l A m c _ (O.out.keep (hk1.trans hk2)) f2 HM true HV).mono ?_); rintro e w3 ⟨rfl, hk3⟩))
    go_ret
    exact bool_post rfl ((hk1.trans hk2).trans hk3)
theorem holds_is (v : List Int) (l : List Bd) (A B : Option Addr) (n c m c' : Nat) (w : World) (hv : Nums .i64 w w.heap.size A v) (hl : Bnds w w.heap.size B l) (hn : Hid (n = v.length)) (hm : Hid (m = l.length)) (h1 : Hid (v.length ≤ 1000000)) (h2 : Hid (l.length ≤ 1000000)) (r : Bool) (hr : Hid (holdsB v l = r)) :
    Calls Try.prog 16 #[.slice A n c, .slice B m c'] w (BoolPost r w) := holds_any v l A n c B m c' w hv hl h1.out h2.out hn.out hm.out r hr.out
theorem fits_is (v : List Int) (most : Int) (l : List Bd) (A B : Option Addr) (n c m c' : Nat) (w : World) (hv : Nums .i64 w w.heap.size A v) (hl : Bnds w w.heap.size B l) (hn : Hid (n = v.length)) (hm : Hid (m = l.length)) (h1 : Hid (v.length ≤ 1000000)) (h2 : Hid (l.length ≤ 1000000)) (r : Bool) (hr : Hid ((fitAll most v n && holdsB v l) = r)) :
    Calls Try.prog 19 #[.slice A n c, .int .i64 most, .slice B m c'] w (BoolPost r w) := fits_any v most l A n c B m c' w hv hl h1.out h2.out hn.out hm.out r hr.out
theorem solve_yes (N : Nat) (most : Int) (l : List Bd) (ls : List Int) (hls : Hid (row0 N (solveM N most l) = ls)) (hl : Hid (leastB N (startF (l ++ extraL N most)) = true)) (A : Option Addr) (m c : Nat) (w : World) (hb : Bnds w w.heap.size A l) (hn : Hid (l.length ≤ 400)) (hlm : Hid (m = l.length)) (h : Hid (validB (N : Int) l = true)) (hi : Hid (inR (-10000000) 10000000 most = true)) (hN1 : 1 ≤ N) (hN : N ≤ 12) :
    Calls Try.prog 17 #[.int .i64 (N : Int), .int .i64 most, .slice A m c] w (IntsPost ls 0 w) := by
  have := solve_ok N most l A m c w hb hn.out hlm h.out hi.out hN1 hN
  rw [if_pos hl.out, hls.out] at this
  exact this
set_option maxHeartbeats 8000000 in
set_option maxRecDepth 100000 in
theorem law_turned (n most : Int) (l : List Bd) (A : Option Addr) (c : Nat) (v : List Int) (B : Option Addr) (c' : Nat) (w : World) (o : Bnds w w.heap.size A l) (len : l.length ≤ maxLen) (o2 : Nums .i64 w w.heap.size B v) (len2 : v.length ≤ maxLen) :
    Calls Try.prog 8 #[.int .i64 n, .int .i64 most, .slice A l.length c, .slice B v.length c'] w (BoolPost true w) := by
  unfold maxLen at len len2
  obtain ⟨m, hm⟩ : ∃ m, m = l.length := ⟨_, rfl⟩
  obtain ⟨p, hp⟩ : ∃ p, p = v.length := ⟨_, rfl⟩
  rw [← hm] at len ⊢
  rw [← hp] at len2 ⊢
  have HM := Lib.hid hm; have O := Lib.hid o; have HP := Lib.hid hp; have OV := Lib.hid o2
  clear o hm o2 hp
  cases hf : fewB n l
  · have HF := Lib.hid hf; clear hf
    go_enter Try.func8, Try.ntmps8
    go_wp2_with (first | (go_at_call 9; (with_reducible refine (head_any _).mono ?_); rintro e w1 ⟨rfl, hk1⟩) | (go_at_call 10; (with_reducible refine (few_any n l A m c _ HM false HF).mono ?_); rintro e w2 ⟨rfl, hk2⟩))
    go_ret
    exact bool_post rfl (hk1.trans hk2)
  obtain ⟨f1, f2⟩ := fewB_spec hf
  have HF := Lib.hid hf; clear hf
  have f3 : l.length ≤ 400 := by omega
  cases hv : validB n l
  · have HV := Lib.hid hv; clear hv
    go_enter Try.func8, Try.ntmps8
    go_wp2_with (first | (go_at_call 9; (with_reducible refine (head_any _).mono ?_); rintro e w1 ⟨rfl, hk1⟩) | (go_at_call 10; (with_reducible refine (few_any n l A m c _ HM true HF).mono ?_); rintro e w2 ⟨rfl, hk2⟩) | (go_at_call 11; (with_reducible refine (rvalid_is n l A m c _ (O.out.keep (hk1.trans hk2)) f3 HM false HV).mono ?_); rintro e w3 ⟨rfl, hk3⟩))
    go_ret
    exact bool_post rfl ((hk1.trans hk2).trans hk3)
  have hn0 := (valid_n hv).1
  have HV := Lib.hid hv; clear hv
  by_cases s1 : most < -10000000
  · exact law_turned_bad n most l A m c v B p c' w O HM f3 HF HV (.inl (by simpa using s1))
  by_cases s2 : 10000000 < most
  · exact law_turned_bad n most l A m c v B p c' w O HM f3 HF HV (.inr (.inl ⟨by simpa using s1, by simpa using s2⟩))
  by_cases s3 : n = 0
  · exact law_turned_bad n most l A m c v B p c' w O HM f3 HF HV (.inr (.inr (.inl ⟨by simpa using s1, by simpa using s2, by simpa using s3⟩)))
  by_cases s4 : (p : Int) = n
  case neg => exact law_turned_bad n most l A m c v B p c' w O HM f3 HF HV (.inr (.inr (.inr ⟨by simpa using s1, by simpa using s2, by simpa using s3, by simpa using s4⟩)))
  subst s4
  have s1' : decide (most < -10000000) = false := by simpa using s1
  have s2' : decide (10000000 < most) = false := by simpa using s2
  have s3' : ((p : Int) == 0) = false := by simpa using s3
  have s3'' : (p == 0) = false := by simp; omega
  have s4' : ((p : Int) != (p : Int)) = false := by simp
  have s4'' : (p != p) = false := by simp
  have HI := Lib.hid (show inR (-10000000) 10000000 most = true by simp [inR]; omega)
  have hm40 : m ≤ 40 := by rw [HM.out]; exact f2
  have hp1 : 1 ≤ p := by omega
  have hp12 : p ≤ 12 := by omega
  have HVT := Lib.hid (valid_turn HV.out)
  have F2 := Lib.hid f2
  clear f2
  go_enter Try.func8, Try.ntmps8
  go_wp2_with (first | (go_at_call 9; (with_reducible refine (head_any _).mono ?_); rintro e w1 ⟨rfl, hk1⟩) | (go_at_call 10; (with_reducible refine (few_any p l A m c _ HM true HF).mono ?_); rintro e w2 ⟨rfl, hk2⟩) | (go_at_call 11; (with_reducible refine (rvalid_is p l A m c _ (O.out.keep (hk1.trans hk2)) f3 HM true HV).mono ?_); rintro e w3 ⟨rfl, hk3⟩))
  have K3 := Lib.hid ((hk1.trans hk2).trans hk3)
  clear hk1 hk2 hk3
  go_loopw [10, 11] (fun x i wr => ∃ (k : Nat) (A' : Option Addr) (n' d : Nat), k ≤ m ∧ x = .slice A' n' d ∧ i = .int .i64 (k : Int) ∧ OwnB w3 wr (.slice A' n' d) (turnL (l.take k))) (fun _ i _ => m - (intOf i).toNat)
  case atStart => exact ⟨0, none, 0, 0, by omega, rfl, rfl, OwnB.nil _⟩
  case round =>
    obtain ⟨k, A', n', d', hk, rfl, rfl, hO⟩ := hrel
    have HO := Lib.hid hO; clear hO
    by_cases hkm : k < m
    · have hok : l[k]? = some (l[k]'(by rw [← HM.out]; exact hkm)) := List.getElem?_eq_getElem _
      generalize l[k]'(by rw [← HM.out]; exact hkm) = b at hok
      obtain ⟨bb, off, rfl, hb, c0, c1, c2⟩ := (O.out.keep (K3.out.trans HO.out.2)) k b hok
      have HTN := Lib.hid (turn_next hok)
      have HOK := Lib.hid hok
      clear hok
      have hki : (k : Int) < (m : Int) := by omega
      have hk00 : (0 : Int) ≤ (k : Int) := by omega
      have hkw : IntKind.i64.wrap ((k : Int) + 1) = (k : Int) + 1 := IntWalk.i64_in _ (by omega)
      obtain ⟨bf, bt, bm⟩ := b
      simp only at c0 c1 c2 HTN
      go_wp2_with fail
      have SOF := Lib.hid (show ∀ X, Keeps w3 X → (fun w' => w'.cell? ⟨bb, off + k * 3, none⟩ = some (.int .i64 bf) ∧ w'.cell? ⟨bb, off + k * 3 + 1, none⟩ = some (.int .i64 bt) ∧ w'.cell? ⟨bb, off + k * 3 + 2, none⟩ = some (.int .i64 bm) ∧ Keeps w3 w') X from fun X hX => by
        obtain ⟨bb', off', e, hb, c0, c1, c2⟩ := (O.out.keep (K3.out.trans hX)) k _ HOK.out
        cases e
        exact ⟨c0, c1, c2, hX⟩)
      have HKW := Lib.hid HO.out.2
      have H2 := Lib.hid (HO.out.keep ((Keeps.refl wr).alloc (.cells #[.int .i64 bt, .int .i64 bf, .int .i64 bm] 32)))
      have H3 := Lib.hid (HO.out.keep (((Keeps.refl wr).alloc (.cells #[.int .i64 bt, .int .i64 bf, .int .i64 bm] 32)).drew))
      have X2 := Lib.hid (bnds_one wr bt bf bm)
      have X3 := Lib.hid ((bnds_one wr bt bf bm).keep (Keeps.refl _).drew)
      have L1 := Lib.hid (show (turnL (l.take k)).length + [(⟨bt, bf, bm⟩ : Bd)].length ≤ 1000000 by simp [turnL]; omega)
      have ONE := Lib.hid (show 1 = [(⟨bt, bf, bm⟩ : Bd)].length from rfl)
      clear HO
      go_region_held3 (fun w' => w'.cell? ⟨bb, off + k * 3, none⟩ = some (.int .i64 bf) ∧ w'.cell? ⟨bb, off + k * 3 + 1, none⟩ = some (.int .i64 bt) ∧ w'.cell? ⟨bb, off + k * 3 + 2, none⟩ = some (.int .i64 bm) ∧ Keeps w3 w') ((refine SOF.out _ ?_; (repeat (first | exact HKW.out | assumption | apply Keeps.drew | apply Keeps.alloc)); done))
        (first | (refine step_app (by rfl) (.tmp 53) (.tmp 70) (by rfl) _ _ (by rfl) H2.out _ _ _ [⟨bt, bf, bm⟩] (by rfl) X2.out ONE L1 ?_; intro A7 n7 c7 w7 ho7; have hkA : Keeps w3 w7 := ho7.2) | (refine step_app (by rfl) (.tmp 53) (.tmp 70) (by rfl) _ _ (by rfl) H3.out _ _ _ [⟨bt, bf, bm⟩] (by rfl) X3.out ONE L1 ?_; intro A7 n7 c7 w7 ho7; have hkA : Keeps w3 w7 := ho7.2))
      have O7 := Lib.hid ho7; clear ho7 hkA H2 H3 X2 X3
      go_wp2_with fail
      go_roundw
      case rel => exact ⟨k + 1, A7, n7, c7, by omega, rfl, by go_num, by rw [HTN.out]; exact O7.out⟩
      case measure => simp [intOf]; omega
    · have hTl : l.take k = l := List.take_of_length_le (by have := HM.out; omega)
      rw [hTl] at HO
      clear hTl
      obtain ⟨hb0, hb1⟩ := HO.out.bnds
      have HBT := Lib.hid hb0; have HNT := Lib.hid hb1
      have KW := Lib.hid (K3.out.trans HO.out.2)
      clear hb0 hb1 HO K3
      generalize hwl : wr = wl at *
      clear hwl
      go_wp2_with fail
      go_loopw [12, 13] (fun x i wr => ∃ (j : Nat) (A2 : Option Addr) (n2 d2 : Nat), j ≤ p ∧ x = .slice A2 n2 d2 ∧ i = .int .i64 (j : Int) ∧ allIn (-1000000000) 1000000000 (v.take j) = true ∧ OwnI wl wr (.slice A2 n2 d2) (negL (v.take j))) (fun _ i _ => p - (intOf i).toNat)
      case atStart => exact ⟨0, none, 0, 0, by omega, rfl, rfl, by simp [allIn], OwnI.nil _⟩
      case round =>
        obtain ⟨j, A2, n2, d2, hj, rfl, rfl, hall, hO⟩ := hrel
        have HO := Lib.hid hO; have HALL := Lib.hid hall; clear hO hall
        by_cases hjp : j < p
        · have hok : v[j]? = some (v[j]'(by rw [← HP.out]; exact hjp)) := List.getElem?_eq_getElem _
          generalize v[j]'(by rw [← HP.out]; exact hjp) = x at hok
          obtain ⟨bb, off, rfl, hb, c0⟩ := (OV.out.keep (KW.out.trans HO.out.2)) j x hok
          have HTN := Lib.hid (neg_next hok)
          have HOK := Lib.hid hok
          clear hok
          have hji : (j : Int) < (p : Int) := by omega
          have hj00 : (0 : Int) ≤ (j : Int) := by omega
          have hjw : IntKind.i64.wrap ((j : Int) + 1) = (j : Int) + 1 := IntWalk.i64_in _ (by omega)
          by_cases r1 : x < -1000000000
          · have r1' : decide (x < -1000000000) = true := by simpa using r1
            go_wp2_with fail
            go_ret
            exact bool_post rfl (KW.out.trans HO.out.2)
          by_cases r2 : 1000000000 < x
          · have r1' : decide (x < -1000000000) = false := by simpa using r1
            have r2' : decide (1000000000 < x) = true := by simpa using r2
            go_wp2_with fail
            go_ret
            exact bool_post rfl (KW.out.trans HO.out.2)
          have r1' : decide (x < -1000000000) = false := by simpa using r1
          have r2' : decide (1000000000 < x) = false := by simpa using r2
          have hxw : IntKind.i64.wrap (-x) = -x := IntWalk.i64_in _ (by omega)
          have HA2 := Lib.hid (show allIn (-1000000000) 1000000000 (v.take (j + 1)) = true by
            have := HALL.out
            rw [List.take_add_one, HOK.out]
            simp only [allIn, List.all_append] at this ⊢
            rw [this]; simp [inR]; omega)
          have H2 := Lib.hid (HO.out.keep ((Keeps.refl wr).alloc (.cells #[.int .i64 (-x)] 3)))
          have X2 := Lib.hid (nums_one wr (-x))
          have L1 := Lib.hid (show (negL (v.take j)).length + [-x].length ≤ 1000000 by simp [negL]; omega)
          have ONE := Lib.hid (show 1 = [-x].length from rfl)
          clear HO
          go_wp2_with (at_builtin; refine (wpList_appi rfl (.tmp 90) (.tmp 96) rfl _ _ rfl H2.out _ _ _ [-x] rfl X2.out ONE L1 ?_); intro A7 n7 c7 w7 ho7; have O7 := Lib.hid ho7; clear ho7 H2 X2)
          go_roundw
          case rel => exact ⟨j + 1, A7, n7, c7, by omega, rfl, by go_num, HA2.out, by rw [HTN.out]; exact O7.out⟩
          case measure => simp [intOf]; omega
        · have hTl : v.take j = v := List.take_of_length_le (by have := HP.out; omega)
          rw [hTl] at HO HALL
          obtain ⟨hb0, hb1⟩ := HO.out.nums
          have HBN := Lib.hid hb0; have HNN := Lib.hid hb1
          have hb2 := HO.out.2
          have HBT2 := Lib.hid (HBT.out.keep hb2)
          have KX := Lib.hid (KW.out.trans hb2)
          have hn2 : n2 = p := by rw [hb1]; simp [negL]; exact HP.out.symm
          clear hb0 hb1 hb2 HO hTl HBT
          subst hn2
          have HPN := HNN
          have M1 := Lib.hid (show v.length ≤ 1000000 by have := HP.out; omega)
          have M2 := Lib.hid (show l.length ≤ 1000000 by omega)
          have M3 := Lib.hid (show (negL v).length ≤ 1000000 by have := HP.out; simp [negL]; omega)
          have M4 := Lib.hid (show (turnL l).length ≤ 1000000 by simp [turnL]; omega)
          have M5 := Lib.hid (show (turnL l).length ≤ 400 by simp [turnL]; omega)
          have HTT := holds_turn (l := l) HALL.out
          cases hh : holdsB v l
          · have HH := Lib.hid hh
            have HH2 := Lib.hid (HTT.trans hh)
            have HFF := Lib.hid (show (fitAll most (negL v) n2 && holdsB (negL v) (turnL l)) = false by rw [HTT.trans hh, Bool.and_false])
            clear hh HTT
            go_wp2_with (first | (go_at_call 16; (with_reducible refine (holds_is v l B A n2 c' m c _ (OV.out.keep KX.out) (O.out.keep KX.out) HP HM M1 M2 false HH).mono ?_); rintro e w4 ⟨rfl, hk4⟩) | (go_at_call 16; (with_reducible refine (holds_is (negL v) (turnL l) A2 A' n2 d2 n' d' _ (HBN.out.keep hk4) (HBT2.out.keep hk4) HNN HNT M3 M4 false HH2).mono ?_); rintro e w5 ⟨rfl, hk5⟩) | (go_at_call 19; (with_reducible refine (fits_is (negL v) most (turnL l) A2 A' n2 d2 n' d' _ (HBN.out.keep (hk4.trans hk5)) (HBT2.out.keep (hk4.trans hk5)) HNN HNT M3 M4 false HFF).mono ?_); rintro e w6 ⟨rfl, hk6⟩))
            go_ret
            exact bool_post rfl (((KX.out.trans hk4).trans hk5).trans hk6)
          · have HH := Lib.hid hh
            have HH2 := Lib.hid (HTT.trans hh)
            cases hfa : fitAll most (negL v) n2
            · have HFF := Lib.hid (show (fitAll most (negL v) n2 && holdsB (negL v) (turnL l)) = false by rw [hfa, Bool.false_and])
              clear hh HTT hfa
              go_wp2_with (first | (go_at_call 16; (with_reducible refine (holds_is v l B A n2 c' m c _ (OV.out.keep KX.out) (O.out.keep KX.out) HP HM M1 M2 true HH).mono ?_); rintro e w4 ⟨rfl, hk4⟩) | (go_at_call 16; (with_reducible refine (holds_is (negL v) (turnL l) A2 A' n2 d2 n' d' _ (HBN.out.keep hk4) (HBT2.out.keep hk4) HNN HNT M3 M4 true HH2).mono ?_); rintro e w5 ⟨rfl, hk5⟩) | (go_at_call 19; (with_reducible refine (fits_is (negL v) most (turnL l) A2 A' n2 d2 n' d' _ (HBN.out.keep (hk4.trans hk5)) (HBT2.out.keep (hk4.trans hk5)) HNN HNT M3 M4 false HFF).mono ?_); rintro e w6 ⟨rfl, hk6⟩))
              go_ret
              exact bool_post rfl (((KX.out.trans hk4).trans hk5).trans hk6)
            · have HFF := Lib.hid (show (fitAll most (negL v) n2 && holdsB (negL v) (turnL l)) = true by rw [hfa, HH2.out]; rfl)
              have hbd : ∀ i : Nat, at' (negL v) (i : Int) ≤ 1000000000 := by
                intro i
                rw [at_neg]
                unfold at'
                rw [Int.toNat_natCast, List.getD_eq_getElem?_getD]
                cases hvi : v[i]? with
                | none => simp
                | some x => have := allIn_mem HALL.out hvi; simp; omega
              obtain ⟨sl, sb⟩ := solve_fits HVT.out HI.out hp1 hp12 hfa HH2.out hbd
              obtain ⟨xs, hxs⟩ : ∃ xs, row0 n2 (solveM n2 most (turnL l)) = xs := ⟨_, rfl⟩
              have hxl : xs.length = n2 := by rw [← hxs]; exact row0_len _ _
              have HXS := Lib.hid hxs; have SL := Lib.hid sl; have SB := Lib.hid sb
              clear hh HTT hfa hbd sl sb hxs
              go_wp2_with (first | (go_at_call 16; (with_reducible refine (holds_is v l B A n2 c' m c _ (OV.out.keep KX.out) (O.out.keep KX.out) HP HM M1 M2 true HH).mono ?_); rintro e w4 ⟨rfl, hk4⟩) | (go_at_call 16; (with_reducible refine (holds_is (negL v) (turnL l) A2 A' n2 d2 n' d' _ (HBN.out.keep hk4) (HBT2.out.keep hk4) HNN HNT M3 M4 true HH2).mono ?_); rintro e w5 ⟨rfl, hk5⟩) | (go_at_call 19; (with_reducible refine (fits_is (negL v) most (turnL l) A2 A' n2 d2 n' d' _ (HBN.out.keep (hk4.trans hk5)) (HBT2.out.keep (hk4.trans hk5)) HNN HNT M3 M4 true HFF).mono ?_); rintro e w6 ⟨rfl, hk6⟩) | (go_at_call 17; (with_reducible refine (solve_yes n2 most (turnL l) xs HXS SL A' n' d' _ (HBT2.out.keep ((hk4.trans hk5).trans hk6)) M5 HNT HVT HI hp1 hp12).mono ?_); rintro e w7 ⟨B7, e7, rfl, q7, hk7⟩; have Q7 := Lib.hid q7; clear q7))
              have KY := Lib.hid ((((KX.out.trans hk4).trans hk5).trans hk6).trans hk7)
              clear hk4 hk5 hk6 hk7
              go_loopw [16] (fun i wr => ∃ q : Nat, q ≤ n2 ∧ i = .int .i64 (q : Int) ∧ Keeps w7 wr) (fun i _ => n2 - (intOf i).toNat)
              case atStart => exact ⟨0, by omega, rfl, Keeps.refl _⟩
              case round =>
                obtain ⟨q, hq, rfl, hK⟩ := hrel
                by_cases hqp : q < n2
                · have hok : v[q]? = some (v[q]'(by rw [← HP.out]; exact hqp)) := List.getElem?_eq_getElem _
                  generalize v[q]'(by rw [← HP.out]; exact hqp) = x at hok
                  obtain ⟨sb1, sb2, sb3⟩ := SB.out q hqp
                  have hxq : xs[q]? = some (solveM n2 most (turnL l) 0 q) := by rw [← HXS.out]; simp [row0, hqp]
                  generalize solveM n2 most (turnL l) 0 q = y at *
                  rw [at_neg, at_nat hok] at sb1
                  obtain ⟨b1, o1, rfl, hb1, c0⟩ := (OV.out.keep (KY.out.trans hK)) q x hok
                  obtain ⟨b2, o2, rfl, hb2, c1⟩ := (Q7.out.keep hK) q y hxq
                  have hqi : (q : Int) < (n2 : Int) := by omega
                  have hq00 : (0 : Int) ≤ (q : Int) := by omega
                  have hqw : IntKind.i64.wrap ((q : Int) + 1) = (q : Int) + 1 := IntWalk.i64_in _ (by omega)
                  have hyw : IntKind.i64.wrap (-y) = -y := IntWalk.i64_in _ (by omega)
                  have hcmp : decide (x < -y) = false := by simp; omega
                  clear hok hxq hxl sb1
                  go_wp2_with fail
                  go_quiet (fail)
                  go_wp2_with fail
                  go_roundw
                  case rel => first | exact ⟨q + 1, by omega, by go_num, hK.drewN _⟩ | ((repeat apply Exists.intro); exact ⟨⟨q + 1, by omega, by go_num, hK.drewN _⟩, rfl⟩)
                  case measure => simp [intOf]; omega
                · go_wp2_with fail
                  go_ret
                  exact bool_post rfl (KY.out.trans hK)
end Go.Proofs.Ytfdegdfijjfgbaa
