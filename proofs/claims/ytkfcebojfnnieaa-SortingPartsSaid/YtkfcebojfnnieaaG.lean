import Derived.Test.YtkfcebojfnnieaaF
import Derived.Test.YtkfcebojfnnieaaRows
import Derived.WalkKit
import Derived.WalkSpells
import Derived.WalkLawsBesides
import Derived.Laws.EntriesVeiled
import Derived.ProofKit
import Derived.OpenShut
import Derived.Lib.Hide
import Derived.BigQuiet
import Derived.Deep.QuietTactic
import Derived.Below
import Derived.Laws.OwnMore
import Derived.Deep.AppendLies
import Derived.Deep.Draws
import Derived.Laws.Rows
import Derived.Maps.AppendAt
import Derived.RegionTactic
import Derived.OwnWalk
import Derived.Deep.RegionHeld3
namespace Go.Proofs.Ytkfcebojfnnieaa
open Go.ChangeShapes Go.WideShapes Go.ChangeAt Go.RowKit
set_option linter.unusedSimpArgs false
set_option linter.unusedVariables false
theorem list_nil (w w' : World) (h : Keeps w w') : ListPost [] w (.returned (.slice none 0 0)) w' := ⟨none, 0, rfl, fun k l h => by simp at h, h⟩
def okPass (P : Int) (order pocket : List Int) : Bool := machB P && (rowB order (pocket.length : Int) && rowB pocket P)
def passE (P : Int) (order pocket : List Int) : List Int := if okPass P order pocket then passF P.toNat (at' pocket) order else []
theorem row_mem {l : List Int} {n x : Int} (h : rowB l n = true) (hx : x ∈ l) : 0 ≤ x ∧ x < n := by
  have := List.all_eq_true.1 h x hx
  simp [inB] at this; exact this
theorem below_is (l : List Int) (A : Option Addr) (n c : Nat) (m : Int) (w : World) (hl : Nums .i64 w w.heap.size A l) (hn : l.length ≤ 5000) (hln : Hid (n = l.length)) (r : Bool) (hr : Hid (rowB l m = r)) :
    Calls Try.prog 35 #[.slice A n c, .int .i64 m] w (BoolPost r w) := below_any l A n c m w hl (by omega) hln.out r hr.out
theorem row_is (l : List Int) (A : Option Addr) (n c : Nat) (m : Int) (w : World) (hl : Nums .i64 w w.heap.size A l) (hn : l.length ≤ 5000) (hln : Hid (n = l.length)) (r : Bool) (hr : Hid (rowB l m = r)) :
    Calls Try.prog 34 #[.slice A n c, .int .i64 m] w (BoolPost r w) := row_any l A n c m w hl (by omega) hln.out r hr.out
set_option maxHeartbeats 2000000 in
theorem spass_any (P : Int) (order pocket : List Int) (A B : Option Addr) (n c n' c' : Nat) (w : World) (ho : Nums .i64 w w.heap.size A order) (hp : Nums .i64 w w.heap.size B pocket) (hn : order.length ≤ 5000) (hn' : pocket.length ≤ 5000) (hln : n = order.length) (hlm : n' = pocket.length)
    (r : List Int) (hr : passE P order pocket = r) : Calls Try.prog 21 #[.int .i64 P, .slice A n c, .slice B n' c'] w (ListPost r w) := by
  subst hr
  have h1 : n ≤ 5000 := by omega
  have h2 : n' ≤ 5000 := by omega
  have HN := Lib.hid hln; clear hln
  have HM := Lib.hid hlm; clear hlm
  have t1 : decide (5000 < n) = false := by simp; omega
  have t1' : decide ((5000 : Int) < (n : Int)) = false := by simp; omega
  have t2 : decide (5000 < n') = false := by simp; omega
  have t2' : decide ((5000 : Int) < (n' : Int)) = false := by simp; omega
  have hb := Blk.new w 22 #[.slice B n' c']
  have hk0 : Keeps w (w.alloc (.cells #[.slice B n' c'] 22)) := (Keeps.refl w).alloc _
  have ho0 := ho.keep hk0
  have hp0 := hp.keep hk0
  have HO := Lib.hid ho0; have HP := Lib.hid hp0; have HB := Lib.hid hb; have HK := Lib.hid hk0
  clear ho hp ho0 hp0 hb hk0
  have zw : w.heap.size < (w.alloc (.cells #[.slice B n' c'] 22)).heap.size := by simp
  cases hm : machB P
  · have E := Lib.hid (show passE P order pocket = [] by simp [passE, okPass, hm])
    have HH := Lib.hid hm; clear hm
    go_enter Try.func21, Try.ntmps21
    go_wp2_with (go_at_call 29; (with_reducible refine (machine_any _ _ false HH.out).mono ?_); rintro e w' ⟨rfl, rfl⟩)
    go_ret
    rw [E.out]
    exact list_nil _ _ HK.out
  · have HH := Lib.hid hm
    simp only [machB, Bool.and_eq_true, decide_eq_true_eq] at hm
    cases hr1 : rowB order (pocket.length : Int)
    · have E := Lib.hid (show passE P order pocket = [] by simp [passE, okPass, hr1])
      have HR1 := Lib.hid (show rowB order (n' : Int) = false by rw [HM.out]; exact hr1); clear hr1 hm
      go_enter Try.func21, Try.ntmps21
      go_wp2_with (first | (go_at_call 29; (with_reducible refine (machine_any _ _ true HH.out).mono ?_); rintro e w' ⟨rfl, rfl⟩) | (go_at_call 35; (with_reducible refine (below_is order A n c n' _ HO.out hn HN false HR1).mono ?_); rintro e w1 ⟨rfl, hk1⟩))
      go_ret
      rw [E.out]
      exact list_nil _ _ (HK.out.trans hk1)
    · cases hr2 : rowB pocket P
      · have E := Lib.hid (show passE P order pocket = [] by simp [passE, okPass, hr2])
        have HR1 := Lib.hid (show rowB order (n' : Int) = true by rw [HM.out]; exact hr1)
        have HR2 := Lib.hid hr2; clear hr1 hr2 hm
        go_enter Try.func21, Try.ntmps21
        go_wp2_with (first | (go_at_call 29; (with_reducible refine (machine_any _ _ true HH.out).mono ?_); rintro e w' ⟨rfl, rfl⟩) | (go_at_call 35; (with_reducible refine (below_is order A n c n' _ HO.out hn HN true HR1).mono ?_); rintro e w1 ⟨rfl, hk1⟩; have c1 : w1.cell? ⟨w.heap.size, 0, none⟩ = some (.slice B n' c') := (HB.out.below hk1 HB.out.lt).cell 0) | (go_at_call 35; (with_reducible refine (below_is pocket B n' c' P _ (HP.out.keep hk1) hn' HM false HR2).mono ?_); rintro e w2 ⟨rfl, hk2⟩))
        go_ret
        rw [E.out]
        exact list_nil _ _ ((HK.out.trans hk1).trans hk2)
      · obtain ⟨Q, rfl⟩ : ∃ Q : Nat, P = (Q : Int) := ⟨P.toNat, by omega⟩
        have E := Lib.hid (show passE (Q : Int) order pocket = passF Q (at' pocket) order by simp [passE, okPass, hr1, hr2, HH.out])
        have HI1 := Lib.hid (fun x hx => row_mem (x := x) hr1 hx)
        have HI2 := Lib.hid (fun x hx => row_mem (x := x) hr2 hx)
        have HR1 := Lib.hid (show rowB order (n' : Int) = true by rw [HM.out]; exact hr1)
        have HR2 := Lib.hid hr2; clear hr1 hr2
        have hq1 : 2 ≤ Q := by omega
        have hq2 : Q ≤ 64 := by omega
        clear hm
        go_enter Try.func21, Try.ntmps21
        go_wp2_with (first | (go_at_call 29; (with_reducible refine (machine_any _ _ true HH.out).mono ?_); rintro e w' ⟨rfl, rfl⟩) | (go_at_call 35; (with_reducible refine (below_is order A n c n' _ HO.out hn HN true HR1).mono ?_); rintro e w1 ⟨rfl, hk1⟩; have c1 : w1.cell? ⟨w.heap.size, 0, none⟩ = some (.slice B n' c') := (HB.out.below hk1 HB.out.lt).cell 0) | (go_at_call 35; (with_reducible refine (below_is pocket B n' c' Q _ (HP.out.keep hk1) hn' HM true HR2).mono ?_); rintro e w2 ⟨rfl, hk2⟩))
        have HB2 := Lib.hid (((HB.out.below hk1 HB.out.lt).below hk2 (Nat.lt_of_lt_of_le HB.out.lt hk1.size)))
        have HP2 := Lib.hid ((HP.out.keep hk1).keep hk2)
        have HO2 := Lib.hid ((HO.out.keep hk1).keep hk2)
        have HK2 := Lib.hid ((HK.out.trans hk1).trans hk2)
        clear hk1 hk2 c1
        refine (pass_any 36 #[.pointer (some ⟨w.heap.size, 0, none⟩)] (at' pocket) Q order A n c w2 hq1 hq2 HO2.out HN.out hn (fun x hx => HI2.out _ (at_mem (HI1.out x hx))) enter36 (fun w' hk x hx => clo36 pocket w.heap.size B n' c' x w' (HB2.out.below hk HB2.out.lt) (HP2.out.keep hk) HM.out (HI1.out x hx).1 (HI1.out x hx).2)).mono ?_
        rintro e w3 ⟨A3, c3, rfl, hn3, hk3⟩
        have HN3 := Lib.hid hn3; have HK3 := Lib.hid (HK2.out.trans hk3)
        clear hn3 hk3
        go_wp2_with fail
        go_ret
        rw [E.out]
        exact ⟨A3, c3, rfl, HN3.out, HK3.out⟩
theorem filter_hit {key : Int → Int} {l : List Int} {k : Nat} {x : Int} {p : Nat} (hx : l[k]? = some x) (h : key x = (p : Int)) : (l.take (k + 1)).filter (fun x => key x == (p : Int)) = (l.take k).filter (fun x => key x == (p : Int)) ++ [x] := by
  rw [List.take_add_one, hx]; simp [h]
theorem filter_miss {key : Int → Int} {l : List Int} {k : Nat} {x : Int} {p : Nat} (hx : l[k]? = some x) (h : key x ≠ (p : Int)) : (l.take (k + 1)).filter (fun x => key x == (p : Int)) = (l.take k).filter (fun x => key x == (p : Int)) := by
  rw [List.take_add_one, hx]; simp [h]
theorem pass_room (key : Int → Int) (l : List Int) (p k : Nat) : (passF p key l).length + ((l.take k).filter fun x => key x == (p : Int)).length ≤ l.length := by
  have h := passF_len_le key l (p + 1)
  rw [passF_append, List.length_append] at h
  have : ((l.take k).filter fun x => key x == (p : Int)).length ≤ (l.filter fun x => key x == (p : Int)).length := by
    conv => rhs; rw [← List.take_append_drop k l, List.filter_append, List.length_append]
    omega
  omega

set_option maxHeartbeats 4000000 in
theorem rpass_bad (P : Int) (order pocket : List Int) (A B : Option Addr) (n c n' c' : Nat) (w : World) (ho : Nums .i64 w w.heap.size A order) (hp : Nums .i64 w w.heap.size B pocket) (hn : order.length ≤ 5000) (hn' : pocket.length ≤ 5000) (hln : n = order.length) (hlm : n' = pocket.length)
    (hr : okPass P order pocket = false) : Calls Try.prog 22 #[.int .i64 P, .slice A n c, .slice B n' c'] w (ListPost [] w) := by
  have h1 : n ≤ 5000 := by omega
  have h2 : n' ≤ 5000 := by omega
  have HN := Lib.hid hln; clear hln
  have HM := Lib.hid hlm; clear hlm
  have t1 : decide (5000 < n) = false := by simp; omega
  have t1' : decide ((5000 : Int) < (n : Int)) = false := by simp; omega
  have t2 : decide (5000 < n') = false := by simp; omega
  have t2' : decide ((5000 : Int) < (n' : Int)) = false := by simp; omega
  have HOK := Lib.hid hr; clear hr
  by_cases p0 : P < 2
  · have p0' : decide (P < 2) = true := by simpa using p0
    go_enter Try.func22, Try.ntmps22
    go_wp2_with fail
    go_ret
    exact list_nil _ _ (Keeps.refl _)
  have p0' : decide (P < 2) = false := by simpa using p0
  by_cases p1 : 64 < P
  · have p1' : decide (64 < P) = true := by simpa using p1
    go_enter Try.func22, Try.ntmps22
    go_wp2_with fail
    go_ret
    exact list_nil _ _ (Keeps.refl _)
  have p1' : decide (64 < P) = false := by simpa using p1
  have hm : machB P = true := by simp [machB]; omega
  cases hr1 : rowB order (pocket.length : Int)
  · have HR1 := Lib.hid (show rowB order (n' : Int) = false by rw [HM.out]; exact hr1); clear hr1 hm
    go_enter Try.func22, Try.ntmps22
    go_wp2_with (go_at_call 34; (with_reducible refine (row_is order A n c n' _ ho hn HN false HR1).mono ?_); rintro e w1 ⟨rfl, hk1⟩)
    go_ret
    exact list_nil _ _ hk1
  · have hr2 : rowB pocket P = false := by have := HOK.out; simp [okPass, hm, hr1] at this; exact this
    have HR1 := Lib.hid (show rowB order (n' : Int) = true by rw [HM.out]; exact hr1)
    have HR2 := Lib.hid hr2; clear hr1 hr2 hm
    go_enter Try.func22, Try.ntmps22
    go_wp2_with (first | (go_at_call 34; (with_reducible refine (row_is order A n c n' _ ho hn HN true HR1).mono ?_); rintro e w1 ⟨rfl, hk1⟩) | (go_at_call 34; (with_reducible refine (row_is pocket B n' c' _ _ (hp.keep hk1) hn' HM false HR2).mono ?_); rintro e w2 ⟨rfl, hk2⟩))
    go_ret
    exact list_nil _ _ (hk1.trans hk2)

set_option maxHeartbeats 4000000 in
set_option maxRecDepth 100000 in
theorem rpass_ok (P : Nat) (order pocket : List Int) (A B : Option Addr) (n c n' c' : Nat) (w : World) (ho : Nums .i64 w w.heap.size A order) (hp : Nums .i64 w w.heap.size B pocket) (hn : order.length ≤ 5000) (hn' : pocket.length ≤ 5000) (hln : n = order.length) (hlm : n' = pocket.length)
    (hP1 : 2 ≤ P) (hP2 : P ≤ 64) (hr1 : rowB order (pocket.length : Int) = true) (hr2 : rowB pocket (P : Int) = true) : Calls Try.prog 22 #[.int .i64 (P : Int), .slice A n c, .slice B n' c'] w (ListPost (passF P (at' pocket) order) w) := by
  obtain ⟨i0, hi0, hz0, hz1, hz2⟩ := info3
  have h1 : n ≤ 5000 := by omega
  have h2 : n' ≤ 5000 := by omega
  have HN := Lib.hid hln; clear hln
  have HM := Lib.hid hlm; clear hlm
  have t1 : decide (5000 < n) = false := by simp; omega
  have t1' : decide ((5000 : Int) < (n : Int)) = false := by simp; omega
  have t2 : decide (5000 < n') = false := by simp; omega
  have t2' : decide ((5000 : Int) < (n' : Int)) = false := by simp; omega
  have p0 : decide ((P : Int) < 2) = false := by simp; omega
  have p1 : decide ((64 : Int) < (P : Int)) = false := by simp; omega
  have HI1 := Lib.hid (fun x hx => row_mem (x := x) hr1 hx)
  have HR1 := Lib.hid (show rowB order (n' : Int) = true by rw [HM.out]; exact hr1)
  have HR2 := Lib.hid hr2; clear hr1 hr2
  have HO0 := Lib.hid ho; have HP0 := Lib.hid hp
  obtain ⟨key, hkey⟩ : ∃ key, at' pocket = key := ⟨_, rfl⟩
  rw [hkey]
  have HKEY := Lib.hid hkey; clear hkey
  go_enter Try.func22, Try.ntmps22
  go_wp2_with (first | (go_at_call 34; (with_reducible refine (row_is order A n c n' _ ho hn HN true HR1).mono ?_); rintro e w1 ⟨rfl, hk1⟩) | (go_at_call 34; (with_reducible refine (row_is pocket B n' c' _ _ (hp.keep hk1) hn' HM true HR2).mono ?_); rintro e w2 ⟨rfl, hk2⟩))
  have HK2 := Lib.hid (hk1.trans hk2)
  clear hk1 hk2 ho hp
  go_loopw [7, 8] (fun v i wr => ∃ p m : Nat, p ≤ P ∧ m = (passF p key order).length ∧ i = .int .i64 (p : Int) ∧ wr.ownsRow w.heap.size 3 1 v m (intCells .i64 (passF p key order)) ∧ Keeps w wr) (fun _ i _ => P - (intOf i).toNat)
  case atStart => exact ⟨0, 0, by omega, rfl, rfl, World.ownsRow_nil _ _ _ _, HK2.out⟩
  case round =>
    obtain ⟨p, m, hp, hm, rfl, hown, hK⟩ := hrel
    obtain ⟨wo, rfl⟩ : ∃ wo : World, wo = wr := ⟨_, rfl⟩
    by_cases hpP : p < P
    · have hpz : (p : Int) < (P : Int) := by omega
      have hpw : IntKind.i64.wrap ((p : Int) + 1) = (p : Int) + 1 := IntWalk.i64_in _ (by omega)
      have HMM := Lib.hid hm; have HOW := Lib.hid hown; have HK := Lib.hid hK
      clear hm hown hK
      go_wp2_with fail
      go_loopw [7, 9] (fun v i wi => ∃ k q : Nat, k ≤ n ∧ q = (passF p key order ++ (order.take k).filter fun x => key x == (p : Int)).length ∧ i = .int .i64 (k : Int) ∧ wi.ownsRow w.heap.size 3 1 v q (intCells .i64 (passF p key order ++ (order.take k).filter fun x => key x == (p : Int))) ∧ Keeps w wi) (fun _ i _ => n - (intOf i).toNat)
      case atStart => exact ⟨0, m, by omega, by rw [HMM.out]; simp, rfl, by simpa using HOW.out, HK.out⟩
      case round =>
        obtain ⟨k, q, hk, hq, rfl, hown, hK⟩ := hrel
        have hroom := pass_room key order p (k + 1)
        have hroom0 := pass_room key order p k
        rw [List.length_append] at hq
        have hqn : q ≤ n := by rw [HN.out]; omega
        have HROOM := Lib.hid hroom; have HQ := Lib.hid hq
        clear hroom hroom0 hq
        by_cases hkn : k < n
        · have hok : order[k]? = some (order[k]'(by rw [← HN.out]; exact hkn)) := List.getElem?_eq_getElem _
          generalize order[k]'(by rw [← HN.out]; exact hkn) = x at hok
          have hx := HI1.out x (List.mem_of_getElem? hok)
          obtain ⟨a, rfl⟩ : ∃ a : Nat, x = (a : Int) := ⟨x.toNat, by omega⟩
          have ha : a < pocket.length := by omega
          have hok2 : pocket[a]? = some (pocket[a]'ha) := List.getElem?_eq_getElem _
          generalize pocket[a]'ha = y at hok2
          have hky : key (a : Int) = y := by rw [← HKEY.out]; exact at_nat hok2
          have han : a < n' := by rw [HM.out]; exact ha
          have hai : (a : Int) < (n' : Int) := by omega
          obtain ⟨b, off, rfl, hb, c0⟩ := (HO0.out.keep hK) k _ hok
          obtain ⟨b', off', rfl, hb', c0'⟩ := (HP0.out.keep hK) a _ hok2
          have HO := Lib.hid hok; have HY := Lib.hid hky
          clear hok hok2 hky hx ha
          have hki : (k : Int) < (n : Int) := by omega
          have hk00 : (0 : Int) ≤ (k : Int) := by omega
          have hkw : IntKind.i64.wrap ((k : Int) + 1) = (k : Int) + 1 := IntWalk.i64_in _ (by omega)
          by_cases e : y = (p : Int)
          · have e' : (y == (p : Int)) = true := by simpa using e
            have HF := Lib.hid (filter_hit HO.out (show key (a : Int) = (p : Int) by rw [HY.out]; exact e))
            have hroom1 := HROOM.out
            rw [HF.out, List.length_append, List.length_singleton, ← Nat.add_assoc, ← HQ.out, ← HN.out] at hroom1
            clear e
            have nn := hown.alloc (.cells #[Value.int .i64 (a : Int)] 3)
            have RL := Lib.hid (reads_lit wr (.int .i64 (a : Int)) 3)
            have G1 := Lib.hid (World.news_of_block (cs := #[.int .i64 (a : Int)]) (t := 3) (fr := (0, 0)) (heap_alloc_new wr (.cells #[.int .i64 (a : Int)] 3)))
            have G2 := Lib.hid (show ∀ u ∈ [Value.int .i64 (a : Int)], u.oneCell' = true by simp [Value.oneCell'])
            have g3 : q + 1 ≤ maxLen := by unfold maxLen; omega
            have g4 : (q + 1) * 8 ≤ 140737488355328 := by omega
            have hK4 := hK.alloc (.cells #[Value.int .i64 (a : Int)] 3)
            have G5 := Lib.hid hK4.size
            have NN := Lib.hid nn
            go_wp2_with (at_builtin; refine (wpList_append_own _ rfl (.tmp 59) (.tmp 64) 22 rfl w.heap.size 3 i0 (.int .i64 0) 1 8 Try.underlying22 hi0 hz0 hz1 hz2 rfl (by decide) _ _ _ rfl nn ⟨wr.heap.size, 0, none⟩ 1 1 [.int .i64 (a : Int)] rfl rfl G1.out G2.out g3 g4 G5.out ?_); intro v' w5 hown5 hgrow _)
            have hK5 : Keeps w w5 := grown_keeps hK4 hgrow (fun k hk => (own_lt NN.out hk).1)
            go_roundw
            case rel => exact ⟨k + 1, q + 1, by omega, by rw [HF.out]; simp only [List.length_append, List.length_singleton]; rw [← Nat.add_assoc, ← HQ.out], by go_num, by rw [HF.out, ← List.append_assoc, intCells_append]; exact hown5, hK5⟩
            case measure => simp [intOf]; omega
          · have e' : (y == (p : Int)) = false := by simpa using e
            have HF := Lib.hid (filter_miss HO.out (show key (a : Int) ≠ (p : Int) by rw [HY.out]; exact e))
            clear e
            go_wp2_with fail
            go_roundw
            case rel => exact ⟨k + 1, q, by omega, by rw [HF.out, List.length_append, ← HQ.out], by go_num, by rw [HF.out]; exact hown, hK⟩
            case measure => simp [intOf]; omega
        · obtain rfl : k = n := by omega
          have HT := Lib.hid (take_all (l := order) (k := k) (by rw [← HN.out]; omega))
          rw [HT.out] at hown HQ
          have HOW2 := Lib.hid hown; clear hown
          go_wp2_with fail
          go_roundw
          case rel => exact ⟨p + 1, q, by omega, by rw [passF_append, List.length_append, ← HQ.out], by go_num, by rw [passF_append]; exact HOW2.out, hK⟩
          case measure => simp [intOf]; omega
    · obtain rfl : p = P := by omega
      have HL := Lib.hid (list_own hown hK)
      go_wp2
      go_ret
      exact HL.out
theorem rpass_any (P : Int) (order pocket : List Int) (A B : Option Addr) (n c n' c' : Nat) (w : World) (ho : Nums .i64 w w.heap.size A order) (hp : Nums .i64 w w.heap.size B pocket) (hn : order.length ≤ 5000) (hn' : pocket.length ≤ 5000) (hln : n = order.length) (hlm : n' = pocket.length)
    (r : List Int) (hr : passE P order pocket = r) : Calls Try.prog 22 #[.int .i64 P, .slice A n c, .slice B n' c'] w (ListPost r w) := by
  subst hr
  cases h : okPass P order pocket
  · rw [show passE P order pocket = [] by simp [passE, h]]
    exact rpass_bad P order pocket A B n c n' c' w ho hp hn hn' hln hlm h
  · rw [show passE P order pocket = passF P.toNat (at' pocket) order by simp [passE, h]]
    simp only [okPass, Bool.and_eq_true, machB, decide_eq_true_eq] at h
    obtain ⟨⟨h0, h1⟩, h2, h3⟩ := h
    obtain ⟨Q, rfl⟩ : ∃ Q : Nat, P = (Q : Int) := ⟨P.toNat, by omega⟩
    exact rpass_ok Q order pocket A B n c n' c' w ho hp hn hn' hln hlm (by omega) (by omega) h2 h3
end Go.Proofs.Ytkfcebojfnnieaa
