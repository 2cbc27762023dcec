import Derived.Test.YtkfcebojfnnieaaK
import Derived.Test.YtkfcebojfnnieaaJ
import Derived.Test.YtkfcebojfnnieaaRows
import Derived.WalkKit
import Derived.WalkSpells
import Derived.WalkLawsBesides
import Derived.Laws.EntriesVeiled
import Derived.ProofKit
import Derived.OpenShut
import Derived.Lib.Hide
import Derived.BigQuiet
import Derived.Deep.QuietTactic
import Derived.Below
import Derived.Laws.OwnMore
import Derived.Deep.AppendLies
import Derived.Deep.Draws
import Derived.Laws.Rows
import Derived.Maps.AppendAt
import Derived.RegionTactic
import Derived.OwnWalk
import Derived.Deep.RegionHeld3
namespace Go.Proofs.Ytkfcebojfnnieaa
open Go.ChangeShapes Go.WideShapes Go.ChangeAt Go.RowKit
set_option linter.unusedSimpArgs false
set_option linter.unusedVariables false
theorem passF_split {P p : Nat} (key : Int → Int) (l : List Int) (hp : p < P) : ∃ r, passF P key l = passF p key l ++ (l.filter fun x => key x == (p : Int)) ++ r := by
  induction P with
  | zero => omega
  | succ P ih =>
    rw [passF_append]
    by_cases e : p = P
    · subst e; exact ⟨[], by simp⟩
    · obtain ⟨r, hr⟩ := ih (by omega)
      exact ⟨r ++ l.filter fun x => key x == (P : Int), by rw [hr]; simp⟩
theorem passF_at {P p k : Nat} {key : Int → Int} {l : List Int} {x : Int} (hp : p < P) (hx : l[k]? = some x) (hk : key x = (p : Int)) :
    (passF P key l)[(passF p key l ++ (l.take k).filter fun x => key x == (p : Int)).length]? = some x := by
  obtain ⟨r, hr⟩ := passF_split key l hp
  have hl : l = l.take k ++ x :: l.drop (k + 1) := by
    rw [← List.take_append_drop k l]
    congr 1
    · simp
    · have := (List.getElem?_eq_some_iff.1 hx)
      obtain ⟨h1, h2⟩ := this
      rw [List.take_append_drop, List.drop_eq_getElem_cons h1, h2]
  have hf : (l.filter fun x => key x == (p : Int)) = ((l.take k).filter fun x => key x == (p : Int)) ++ x :: ((l.drop (k + 1)).filter fun x => key x == (p : Int)) := by
    conv => lhs; rw [hl]
    rw [List.filter_append, List.filter_cons, if_pos (by simp [hk])]
  rw [hr, hf]
  have : passF p key l ++ ((l.take k).filter (fun x => key x == (p : Int)) ++ x :: (l.drop (k + 1)).filter (fun x => key x == (p : Int))) ++ r = (passF p key l ++ (l.take k).filter (fun x => key x == (p : Int))) ++ (x :: ((l.drop (k + 1)).filter (fun x => key x == (p : Int)) ++ r)) := by simp
  rw [this, List.getElem?_append_right (Nat.le_refl _), Nat.sub_self]
  rfl
theorem small_bounds {l : List Int} {n : Nat} (hn : 1 ≤ n) : ∀ x ∈ smallF l n, 0 ≤ x ∧ x < (n : Int) := by
  intro x hx
  simp only [smallF, List.mem_map] at hx
  obtain ⟨y, _, rfl⟩ := hx
  exact ⟨Int.emod_nonneg _ (by omega), Int.emod_lt_of_pos _ (by omega)⟩
theorem row_of {l : List Int} {n : Int} (h : ∀ x ∈ l, 0 ≤ x ∧ x < n) : rowB l n = true := by
  simp only [rowB, List.all_eq_true, inB, Bool.and_eq_true, decide_eq_true_eq]; exact h
theorem count_is (l : List Int) (A : Option Addr) (c : Nat) (x : Int) (w : World) (hl : Nums .i64 w w.heap.size A l) (n : Nat) (hn : l.length ≤ 5000) (hln : Hid (n = l.length)) (r : Nat) (hr : Hid (cntF l x = r)) :
    Calls Try.prog 25 #[.slice A n c, .int .i64 x] w fun e w' => e = .returned (.int .i64 (r : Int)) ∧ Keeps w w' := count_any l A n c x w hl (by omega) hln.out r hr.out
theorem cnt_pass {P : Nat} {key : Int → Int} {l : List Int} (h : ∀ x ∈ l, 0 ≤ key x ∧ key x < (P : Int)) (x : Int) : cntF (passF P key l) x = cntF l x := (passF_perm h).count_eq x
set_option maxHeartbeats 4000000 in
set_option maxRecDepth 100000 in
theorem passes_in (P : Nat) (l1 : List Int) (A1 : Option Addr) (c1 : Nat) (l2 : List Int) (A2 : Option Addr) (c2 : Nat) (a : Int) (w : World) (h0 : 0 ≤ a) (h1 : a ≤ 255) (o1 : U16s w w.heap.size A1 l1) (o2 : U16s w w.heap.size A2 l2)
    (hP : 2 + a % 63 = (P : Int)) (q1 : 2 ≤ P) (q2 : P ≤ 64) (n1 n2 : Nat) (hn1 : n1 = l1.length) (hn2 : n2 = l2.length) (b1 : n1 ≤ 100) (b2 : n2 ≤ 100) (b3 : 1 ≤ n2) :
    Calls Try.prog 4 #[.int .u8 a, .slice A1 n1 c1, .slice A2 n2 c2] w (BoolPost true w) := by
  have HP := Lib.hid hP; clear hP
  have HN1 := Lib.hid hn1; have HN2 := Lib.hid hn2
  have O1 := Lib.hid o1; have O2 := Lib.hid o2
  have L1 : l1.length ≤ 1000000000000 := by omega
  have L2 : l2.length ≤ 1000000000000 := by omega
  clear o1 o2 hn1 hn2
  have t1 : decide (100 < n1) = false := by simp; omega
  have t1' : decide ((100 : Int) < (n1 : Int)) = false := by simp; omega
  have t2 : decide (100 < n2) = false := by simp; omega
  have t2' : decide ((100 : Int) < (n2 : Int)) = false := by simp; omega
  have t3 : ((n2 : Int) == 0) = false := by simp; omega
  have t3' : (n2 == 0) = false := by simp; omega
  obtain ⟨order, hord⟩ : ∃ o, smallF l1 n2 = o := ⟨_, rfl⟩
  obtain ⟨pocket, hpoc⟩ : ∃ o, smallF l2 P = o := ⟨_, rfl⟩
  have ol : n1 = order.length := by rw [← hord, small_len]; exact HN1.out
  have pl : n2 = pocket.length := by rw [← hpoc, small_len]; exact HN2.out
  have ob : ∀ x ∈ order, 0 ≤ x ∧ x < (pocket.length : Int) := by rw [← pl, ← hord]; exact small_bounds b3
  have pb : ∀ x ∈ pocket, 0 ≤ x ∧ x < (P : Int) := by rw [← hpoc]; exact small_bounds (by omega)
  have kb : ∀ x ∈ order, 0 ≤ at' pocket x ∧ at' pocket x < (P : Int) := fun x hx => pb _ (at_mem (ob x hx))
  have hpe : passE (P : Int) order pocket = passF P (at' pocket) order := by
    have : okPass (P : Int) order pocket = true := by simp only [okPass, row_of ob, row_of pb, machB]; simp; omega
    simp [passE, this]
  have hlen := passF_length kb
  obtain ⟨key, hkey⟩ : ∃ key, at' pocket = key := ⟨_, rfl⟩
  rw [hkey] at hpe hlen kb
  obtain ⟨out, hout⟩ : ∃ out, passF P key order = out := ⟨_, rfl⟩
  rw [hout] at hpe hlen
  rw [← ol] at hlen
  have h5 : order.length ≤ 5000 := by omega
  have h6 : pocket.length ≤ 5000 := by omega
  have h7 : out.length ≤ 5000 := by omega
  have HORD := Lib.hid hord; have HPOC := Lib.hid hpoc; have OL := Lib.hid ol; have PL := Lib.hid pl; have OB := Lib.hid ob; have KB := Lib.hid kb; have HPE := Lib.hid hpe; have HLEN := Lib.hid hlen.symm; have HKEY := Lib.hid hkey; have HOUT := Lib.hid hout
  clear hord hpoc ol pl ob pb kb hpe hlen hkey hout
  go_enter Try.func4, Try.ntmps4
  go_wp2_with (first | (go_at_call 11; (with_reducible refine (head_any _).mono ?_); rintro e w1 ⟨rfl, hk1⟩) | (go_at_call 23; (with_reducible refine (base_any a _ h0 h1 P HP.out).mono ?_); rintro e w2 ⟨rfl, rfl⟩))
  refine (small_any l1 A1 n1 c1 n2 _ (O1.out.1.keep hk1) O1.out.2 L1 HN1.out b3 (by omega)).mono ?_
  rintro e w3 ⟨A3, c3, rfl, q3, hk3⟩
  rw [HORD.out] at q3 ⊢
  rw [← OL.out]
  have Q3 := Lib.hid q3; have K3 := Lib.hid (hk1.trans hk3)
  clear q3 hk1 hk3
  go_wp2_with fail
  refine (small_any l2 A2 n2 c2 P _ (O2.out.1.keep K3.out) O2.out.2 L2 HN2.out (by omega) (by omega)).mono ?_
  rintro e w4 ⟨A4, c4, rfl, q4, hk4⟩
  rw [HPOC.out] at q4 ⊢
  rw [← PL.out]
  have Q3' := Lib.hid (Q3.out.keep hk4); have Q4 := Lib.hid q4; have K4 := Lib.hid (K3.out.trans hk4)
  clear q4 hk4 K3 Q3
  go_wp2_with fail
  refine (spass_any P order pocket A3 A4 n1 c3 n2 c4 _ Q3'.out Q4.out h5 h6 OL.out PL.out out HPE.out).mono ?_
  rintro e w5 ⟨A5, c5, rfl, q5, hk5⟩
  have Q3 := Lib.hid (Q3'.out.keep hk5); have Q4' := Lib.hid (Q4.out.keep hk5); have Q5 := Lib.hid q5; have K5 := Lib.hid (K4.out.trans hk5)
  rw [← HLEN.out]
  clear q5 hk5 K4 Q3' Q4
  go_wp2_with fail
  go_loopw [12, 13] (fun v i wr => ∃ p m : Nat, p ≤ P ∧ i = .int .i64 (p : Int) ∧ v = .int .i64 (m : Int) ∧ m = (passF p key order).length ∧ Keeps w5 wr) (fun _ i _ => P - (intOf i).toNat)
  case atStart => exact ⟨0, 0, by omega, rfl, rfl, rfl, Keeps.refl _⟩
  case round =>
    obtain ⟨p, m, hp, rfl, rfl, hm, hK⟩ := hrel
    obtain ⟨wo, rfl⟩ : ∃ wo : World, wo = wr := ⟨_, rfl⟩
    have HM := Lib.hid hm; have HK := Lib.hid hK
    clear hm hK
    by_cases hpP : p < P
    · have hpz : (p : Int) < (P : Int) := by omega
      have hpw : IntKind.i64.wrap ((p : Int) + 1) = (p : Int) + 1 := IntWalk.i64_in _ (by omega)
      go_wp2_with fail
      go_loopw [12, 14] (fun v i wi => ∃ k q : Nat, k ≤ n1 ∧ i = .int .i64 (k : Int) ∧ v = .int .i64 (q : Int) ∧ q = (passF p key order ++ (order.take k).filter fun x => key x == (p : Int)).length ∧ Keeps w5 wi) (fun _ i _ => n1 - (intOf i).toNat)
      case atStart => exact ⟨0, m, by omega, rfl, rfl, by rw [HM.out]; simp, HK.out⟩
      case round =>
        obtain ⟨k, q, hk, rfl, rfl, hq, hK⟩ := hrel
        have hroom := pass_room key order p k
        have hqn : q ≤ n1 := by rw [hq, List.length_append, OL.out]; exact hroom
        have HQ := Lib.hid hq
        clear hroom hq
        by_cases hkn : k < n1
        · have hok : order[k]? = some (order[k]'(by rw [← OL.out]; exact hkn)) := List.getElem?_eq_getElem _
          generalize order[k]'(by rw [← OL.out]; exact hkn) = x at hok
          have hx := OB.out x (List.mem_of_getElem? hok)
          obtain ⟨t, rfl⟩ : ∃ t : Nat, x = (t : Int) := ⟨x.toNat, by omega⟩
          have ht : t < pocket.length := by omega
          have hok2 : pocket[t]? = some (pocket[t]'ht) := List.getElem?_eq_getElem _
          generalize pocket[t]'ht = y at hok2
          have hky : key (t : Int) = y := by rw [← HKEY.out]; exact at_nat hok2
          have htn : t < n2 := by rw [PL.out]; exact ht
          have hti : (t : Int) < (n2 : Int) := by omega
          obtain ⟨b, off, rfl, hb, ca⟩ := (Q3.out.keep hK) k _ hok
          obtain ⟨b', off', rfl, hb', cb⟩ := (Q4'.out.keep hK) t _ hok2
          have HO := Lib.hid hok; have HY := Lib.hid hky
          clear hok2 hky hx ht
          have hki : (k : Int) < (n1 : Int) := by omega
          have hk00 : (0 : Int) ≤ (k : Int) := by omega
          have hkw : IntKind.i64.wrap ((k : Int) + 1) = (k : Int) + 1 := IntWalk.i64_in _ (by omega)
          by_cases e : y = (p : Int)
          · have e' : (y == (p : Int)) = true := by simpa using e
            have hat := passF_at (P := P) hpP hok (show key (t : Int) = (p : Int) by rw [HY.out]; exact e)
            rw [HOUT.out, ← HQ.out] at hat
            have hqlt : q < n1 := by have := (List.getElem?_eq_some_iff.1 hat).1; rw [← HLEN.out] at this; exact this
            obtain ⟨b5, off5, rfl, hb5, c5'⟩ := (Q5.out.keep hK) q _ hat
            have HF := Lib.hid (filter_hit HO.out (show key (t : Int) = (p : Int) by rw [HY.out]; exact e))
            have hqw : IntKind.i64.wrap ((q : Int) + 1) = (q : Int) + 1 := IntWalk.i64_in _ (by omega)
            have hqi : (q : Int) < (n1 : Int) := by omega
            have u1 : decide (n1 ≤ q) = false := by simp; omega
            have u2 : decide ((n1 : Int) ≤ (q : Int)) = false := by simp; omega
            have u3 : ((t : Int) != (t : Int)) = false := by simp
            clear e hat hok
            go_wp2_with fail
            go_quiet (fail)
            go_wp2_with fail
            go_roundw
            case rel => exact ⟨k + 1, q + 1, by omega, by go_num, by go_num, by rw [HF.out, ← List.append_assoc, List.length_append, ← HQ.out]; rfl, hK.drewN _⟩
            case measure => simp [intOf]; omega
          · have e' : (y == (p : Int)) = false := by simpa using e
            have HF := Lib.hid (filter_miss HO.out (show key (t : Int) ≠ (p : Int) by rw [HY.out]; exact e))
            clear e hok
            go_wp2_with fail
            go_roundw
            case rel => exact ⟨k + 1, q, by omega, by go_num, rfl, by rw [HF.out, ← HQ.out], hK⟩
            case measure => simp [intOf]; omega
        · obtain rfl : k = n1 := by omega
          have HT := Lib.hid (take_all (l := order) (k := k) (by rw [← OL.out]; omega))
          rw [HT.out] at HQ
          go_wp2_with fail
          go_roundw
          case rel => exact ⟨p + 1, q, by omega, by go_num, rfl, by rw [passF_append, ← HQ.out], hK⟩
          case measure => simp [intOf]; omega
    · obtain rfl : p = P := by omega
      go_wp2_with fail
      go_loopw [15] (fun i wi => ∃ k : Nat, k ≤ n1 ∧ i = .int .i64 (k : Int) ∧ Keeps w5 wi) (fun i _ => n1 - (intOf i).toNat)
      case atStart => exact ⟨0, by omega, rfl, HK.out⟩
      case round =>
        obtain ⟨k, hk, rfl, hK⟩ := hrel
        by_cases hkn : k < n1
        · have hok : order[k]? = some (order[k]'(by rw [← OL.out]; exact hkn)) := List.getElem?_eq_getElem _
          generalize order[k]'(by rw [← OL.out]; exact hkn) = x at hok
          have Q3w := Lib.hid (Q3.out.keep hK); have Q5w := Lib.hid (Q5.out.keep hK)
          obtain ⟨b, off, rfl, hb, ca⟩ := (Q3.out.keep hK) k _ hok
          obtain ⟨r, hr⟩ : ∃ r, cntF order x = r := ⟨_, rfl⟩
          have hr2 : cntF out x = r := by rw [← HOUT.out, ← hr]; exact cnt_pass KB.out x
          have HR := Lib.hid hr; have HR2 := Lib.hid hr2
          have hki : (k : Int) < (n1 : Int) := by omega
          have hk00 : (0 : Int) ≤ (k : Int) := by omega
          have hkw : IntKind.i64.wrap ((k : Int) + 1) = (k : Int) + 1 := IntWalk.i64_in _ (by omega)
          have u3 : ((r : Int) != (r : Int)) = false := by simp
          have aa := After.cell ca hb
          clear hr hr2 hok ca
          go_wp2_with fail
          refine wp_region_after (by kernel_rfl) (by kernel_rfl) ?_
          repeat (go_big_quiet_step ((first | (go_at_call 25; with_reducible exact after_call (count_is out A5 c5 x _ (Q5w.out.keep (After.ok _)) _ h7 HLEN r HR2)) | (go_at_call 25; with_reducible exact after_call (count_is order _ c3 x _ (Q3w.out.keep (After.ok _)) _ h5 OL r HR)))))
          refine wpQuiet_nil ?_
          intro _ hw'
          obtain ⟨⟨W1, hk1⟩, rfl⟩ := hw'
          go_wp2
          go_roundw
          case rel => exact ⟨k + 1, by omega, by go_num, hK.trans hk1⟩
          case measure => simp [intOf]; omega
        · go_wp2_with fail
          go_ret
          exact bool_post rfl (K5.out.trans hK)
set_option maxHeartbeats 2000000 in
theorem law_passes (a : Int) (l1 : List Int) (A1 : Option Addr) (c1 : Nat) (l2 : List Int) (A2 : Option Addr) (c2 : Nat) (w : World) (h0 : 0 ≤ a) (h1 : a ≤ 255) (o1 : U16s w w.heap.size A1 l1) (len1 : l1.length ≤ maxLen) (o2 : U16s w w.heap.size A2 l2) (len2 : l2.length ≤ maxLen) :
    Calls Try.prog 4 #[.int .u8 a, .slice A1 l1.length c1, .slice A2 l2.length c2] w (BoolPost true w) := by
  unfold maxLen at len1 len2
  by_cases ok : l1.length ≤ 100 ∧ l2.length ≤ 100 ∧ 1 ≤ l2.length
  · obtain ⟨x1, x2, x3⟩ := ok
    exact passes_in (2 + a % 63).toNat l1 A1 c1 l2 A2 c2 a w h0 h1 o1 o2 (by omega) (by omega) (by omega) _ _ rfl rfl x1 x2 x3
  generalize l1.length = n1 at *
  generalize l2.length = n2 at *
  clear o1 o2
  by_cases t1 : 100 < n1
  · have t1' : decide (100 < n1) = true := by simpa using t1
    have t1'' : decide ((100 : Int) < (n1 : Int)) = true := by simp; omega
    clear ok
    go_enter Try.func4, Try.ntmps4
    go_wp2_with (go_at_call 11; (with_reducible refine (head_any _).mono ?_); rintro e w1 ⟨rfl, hk1⟩)
    go_ret
    exact bool_post rfl hk1
  have t1' : decide (100 < n1) = false := by simpa using t1
  have t1'' : decide ((100 : Int) < (n1 : Int)) = false := by simp; omega
  by_cases t2 : 100 < n2
  · have t2' : decide (100 < n2) = true := by simpa using t2
    have t2'' : decide ((100 : Int) < (n2 : Int)) = true := by simp; omega
    clear ok
    go_enter Try.func4, Try.ntmps4
    go_wp2_with (go_at_call 11; (with_reducible refine (head_any _).mono ?_); rintro e w1 ⟨rfl, hk1⟩)
    go_ret
    exact bool_post rfl hk1
  have t2' : decide (100 < n2) = false := by simpa using t2
  have t2'' : decide ((100 : Int) < (n2 : Int)) = false := by simp; omega
  obtain rfl : n2 = 0 := by omega
  clear ok
  go_enter Try.func4, Try.ntmps4
  go_wp2_with (go_at_call 11; (with_reducible refine (head_any _).mono ?_); rintro e w1 ⟨rfl, hk1⟩)
  go_ret
  exact bool_post rfl hk1
end Go.Proofs.Ytkfcebojfnnieaa
