import Derived.Test.YtkfcebojfnnieaaM
import Derived.Test.YtkfcebojfnnieaaRows
import Derived.WalkKit
import Derived.WalkSpells
import Derived.WalkLawsBesides
import Derived.Laws.EntriesVeiled
import Derived.ProofKit
import Derived.OpenShut
import Derived.Lib.Hide
import Derived.BigQuiet
import Derived.Deep.QuietTactic
import Derived.Below
import Derived.Laws.OwnMore
import Derived.Deep.AppendLies
import Derived.Deep.Draws
import Derived.Laws.Rows
import Derived.Maps.AppendAt
import Derived.RegionTactic
import Derived.OwnWalk
import Derived.Deep.RegionHeld3
namespace Go.Proofs.Ytkfcebojfnnieaa
open Go.ChangeShapes Go.WideShapes Go.ChangeAt Go.RowKit
set_option linter.unusedSimpArgs false
set_option linter.unusedVariables false
theorem runlist {P : Nat} {s : List (List Int)} {d l : List Int} (h : runF P s d = l) : ∀ x ∈ l, 0 ≤ x ∧ x < (d.length : Int) := by rw [← h]; exact fun x hx => runF_sub hx
theorem map_succ {l d : List Int} {k : Nat} {x : Int} (h : l[k]? = some x) : (l.take (k + 1)).map (at' d) = (l.take k).map (at' d) ++ [at' d x] := by
  rw [List.take_add_one, h]; simp
theorem items_at {n k : Nat} (h : k < n) : (itemsF n)[k]? = some (k : Int) := by simp [itemsF, h]
set_option maxHeartbeats 4000000 in
set_option maxRecDepth 100000 in
theorem again_in (P k n : Nat) (a0 a1 a2 : Int) (l : List Int) (A : Option Addr) (c m : Nat) (w : World) (h0 : 0 ≤ a0) (h0' : a0 ≤ 255) (h1 : 0 ≤ a1) (h1' : a1 ≤ 255) (h2 : 0 ≤ a2) (h2' : a2 ≤ 65535) (o : U16s w w.heap.size A l) (hm : m = l.length) (hm1 : m ≤ 100)
    (eP : 2 + a0 % 63 = (P : Int)) (ek : 1 + a1 % 4 = (k : Int)) (en : 1 + a2 % 2000 = (n : Int)) : Calls Try.prog 10 #[.int .u8 a0, .int .u8 a1, .int .u16 a2, .slice A m c] w (BoolPost true w) := by
  obtain ⟨i0, hi0, hz0, hz1, hz2⟩ := info3
  have q1 : 2 ≤ P := by omega
  have q2 : P ≤ 64 := by omega
  have q3 : 1 ≤ k := by omega
  have q4 : k ≤ 4 := by omega
  have q5 : n ≤ 2000 := by omega
  have q6 : 1 ≤ n := by omega
  have EP := Lib.hid eP; clear eP
  have t1 : decide (100 < m) = false := by simp; omega
  have t1' : decide ((100 : Int) < (m : Int)) = false := by simp; omega
  have HM := Lib.hid hm; have O := Lib.hid o
  have L1 : l.length ≤ 1000000000000 := by omega
  clear hm o
  by_cases hle : n ≤ pw P k
  · have HS := Lib.hid (fun w => scheme_ok P k n w q1 q2 q3 q4 q5 hle)
    obtain ⟨dest, hdest⟩ : ∃ d, smallF l n = d := ⟨_, rfl⟩
    have dl : m = dest.length := by rw [← hdest, small_len]; exact HM.out
    have db : ∀ x ∈ dest, 0 ≤ x ∧ x < (n : Int) := by rw [← hdest]; exact small_bounds q6
    have hrl := runF_length (P := P) (dest := dest) (s := schemeF P k n) (by omega) (schemeF_ok (n := n) (by omega))
    rw [← dl] at hrl
    obtain ⟨order, hord⟩ : ∃ o, runF P (schemeF P k n) dest = o := ⟨_, rfl⟩
    rw [hord] at hrl
    have hin : ∀ x ∈ order, 0 ≤ x ∧ x < (dest.length : Int) := runlist hord
    have hsr := sorted_run (P := P) (k := k) (n := n) (dest := dest) (by omega) db hle
    rw [hord] at hsr
    obtain ⟨srt, hsrt⟩ : ∃ s, order.map (at' dest) = s := ⟨_, rfl⟩
    rw [hsrt] at hsr
    have sl : m = srt.length := by rw [← hsrt]; simp [hrl]
    have sb : ∀ x ∈ srt, 0 ≤ x ∧ x < (n : Int) := by
      rw [← hsrt]; intro x hx
      simp only [List.mem_map] at hx
      obtain ⟨y, hy, rfl⟩ := hx
      exact db _ (at_mem (hin y hy))
    have hag := run_again (P := P) (k := k) (n := n) (dest := srt) (by omega) sb hle hsr
    rw [← sl] at hag
    have DL := Lib.hid dl; have DB := Lib.hid db; have HD := Lib.hid hdest; have HRL := Lib.hid hrl.symm; have HIN := Lib.hid hin; have HORD := Lib.hid hord; have SL := Lib.hid sl; have SB := Lib.hid sb; have HSRT := Lib.hid hsrt; have HAG := Lib.hid hag
    have hd5 : dest.length ≤ 5000 := by omega
    have hs5 : srt.length ≤ 5000 := by omega
    have HSL := Lib.hid (schemeF_len P k n)
    have HIL := Lib.hid (show (itemsF m).length = m by simp [itemsF])
    clear dl db hdest hrl hin hord sl sb hsrt hag hsr hle
    go_enter Try.func10, Try.ntmps10
    go_wp2_with (first | (go_at_call 11; (with_reducible refine (head_any _).mono ?_); rintro e w1 ⟨rfl, hk1⟩) | (go_at_call 23; (with_reducible refine (base_any a0 _ h0 h0' P EP.out).mono ?_); rintro e w2 ⟨rfl, rfl⟩))
    refine (HS.out _).mono ?_
    rintro e w3 ⟨A3, c3, rfl, q3', hk3⟩
    rw [HSL.out]
    have Q3 := Lib.hid q3'; have K3 := Lib.hid (hk1.trans hk3)
    clear q3' hk1 hk3
    go_wp2_with fail
    refine (small_any l A m c n _ (O.out.1.keep K3.out) O.out.2 L1 HM.out q6 (by omega)).mono ?_
    rintro e w4 ⟨A4, c4, rfl, q4', hk4⟩
    rw [HD.out] at q4' ⊢
    rw [← DL.out]
    have Q3' := Lib.hid (Q3.out.keep hk4); have Q4 := Lib.hid q4'; have K4 := Lib.hid (K3.out.trans hk4)
    clear q4' hk4 K3 Q3
    go_wp2_with (go_at_call 23; (with_reducible refine (base_any a0 _ h0 h0' P EP.out).mono ?_); rintro e w2 ⟨rfl, rfl⟩)
    refine (run_scheme P k n dest A3 A4 k c3 m c4 _ Q3'.out Q4.out hd5 rfl DL.out q1 q2 q3 q4 q5 DB.out).mono ?_
    rintro e w5 ⟨A5, c5, rfl, q5', hk5⟩
    rw [HORD.out] at q5' ⊢
    rw [← HRL.out]
    have Q3 := Lib.hid (Q3'.out.keep hk5); have Q5 := Lib.hid q5'; have Q4' := Lib.hid (Q4.out.keep hk5); have K5 := Lib.hid (K4.out.trans hk5)
    clear q5' hk5 K4 Q4 Q3'
    go_wp2_with fail
    go_loopw [16, 17] (fun v i wr => ∃ j : Nat, j ≤ m ∧ i = .int .i64 (j : Int) ∧ wr.ownsRow w5.heap.size 3 1 v j (intCells .i64 ((order.take j).map (at' dest))) ∧ Keeps w5 wr) (fun _ i _ => m - (intOf i).toNat)
    case atStart => exact ⟨0, by omega, rfl, World.ownsRow_nil _ _ _ _, Keeps.refl _⟩
    case round =>
      obtain ⟨j, hj, rfl, hown, hK⟩ := hrel
      by_cases hjm : j < m
      · have hok : order[j]? = some (order[j]'(by rw [← HRL.out]; exact hjm)) := List.getElem?_eq_getElem _
        generalize order[j]'(by rw [← HRL.out]; exact hjm) = x at hok
        have hx := HIN.out x (List.mem_of_getElem? hok)
        obtain ⟨t, rfl⟩ : ∃ t : Nat, x = (t : Int) := ⟨x.toNat, by omega⟩
        have ht : t < dest.length := by omega
        have hok2 : dest[t]? = some (dest[t]'ht) := List.getElem?_eq_getElem _
        generalize dest[t]'ht = y at hok2
        have hy : at' dest (t : Int) = y := at_nat hok2
        have htm : t < m := by rw [DL.out]; exact ht
        have hti : (t : Int) < (m : Int) := by omega
        obtain ⟨b, off, rfl, hb, ca⟩ := (Q5.out.keep hK) j _ hok
        obtain ⟨b', off', rfl, hb', cb⟩ := (Q4'.out.keep hK) t _ hok2
        have HMS := Lib.hid (map_succ (d := dest) hok)
        rw [hy] at HMS
        clear hok hok2 hy hx ht
        have hji : (j : Int) < (m : Int) := by omega
        have hj0 : (0 : Int) ≤ (j : Int) := by omega
        have hjw : IntKind.i64.wrap ((j : Int) + 1) = (j : Int) + 1 := IntWalk.i64_in _ (by omega)
        have u1 : decide ((t : Int) < 0) = false := by simp
        have u2 : decide (m ≤ t) = false := by simp; omega
        have u3 : decide ((m : Int) ≤ (t : Int)) = false := by simp; omega
        have nn := hown.alloc (.cells #[Value.int .i64 y] 3)
        have G1 := Lib.hid (World.news_of_block (cs := #[.int .i64 y]) (t := 3) (fr := (0, 0)) (heap_alloc_new wr (.cells #[.int .i64 y] 3)))
        have G2 := Lib.hid (show ∀ u ∈ [Value.int .i64 y], u.oneCell' = true by simp [Value.oneCell'])
        have g3 : j + 1 ≤ maxLen := by unfold maxLen; omega
        have g4 : (j + 1) * 8 ≤ 140737488355328 := by omega
        have hK4 := hK.alloc (.cells #[Value.int .i64 y] 3)
        have G5 := Lib.hid hK4.size
        have NN := Lib.hid nn
        go_wp2_with (at_builtin; refine (wpList_append_own _ rfl (.tmp 84) (.tmp 92) 22 rfl w5.heap.size 3 i0 (.int .i64 0) 1 8 Try.underlying22 hi0 hz0 hz1 hz2 rfl (by decide) _ _ _ rfl nn ⟨wr.heap.size, 0, none⟩ 1 1 [.int .i64 y] rfl rfl G1.out G2.out g3 g4 G5.out ?_); intro v' w6 hown6 hgrow _)
        have hK6 : Keeps w5 w6 := grown_keeps hK4 hgrow (fun k hk => (own_lt NN.out hk).1)
        go_roundw
        case rel => exact ⟨j + 1, by omega, by go_num, by rw [HMS.out, intCells_append]; exact hown6, hK6⟩
        case measure => simp [intOf]; omega
      · obtain rfl : j = m := by omega
        rw [take_all (by rw [← HRL.out]; exact Nat.le_refl _), HSRT.out] at hown
        obtain ⟨A6, c6, rfl⟩ := own_slice hown
        have Q6 := Lib.hid (Nums.of_own hown SL.out)
        have Q3w := Lib.hid (Q3.out.keep hK)
        have KW := Lib.hid (K5.out.trans hK)
        clear hown hK
        go_wp2_with (go_at_call 23; (with_reducible refine (base_any a0 _ h0 h0' P EP.out).mono ?_); rintro e w2 ⟨rfl, rfl⟩)
        refine (run_scheme P k n srt A3 A6 k c3 j c6 _ Q3w.out Q6.out hs5 rfl SL.out q1 q2 q3 q4 q5 SB.out).mono ?_
        rintro e w7 ⟨A7, c7, rfl, q7', hk7⟩
        rw [HAG.out] at q7' ⊢
        rw [HIL.out]
        have Q7 := Lib.hid q7'; have K7 := Lib.hid (KW.out.trans hk7)
        clear q7' hk7
        go_wp2_with fail
        go_loopw [20] (fun i wi => ∃ t : Nat, t ≤ j ∧ i = .int .i64 (t : Int) ∧ Keeps w7 wi) (fun i _ => j - (intOf i).toNat)
        case atStart => exact ⟨0, by omega, rfl, Keeps.refl _⟩
        case round =>
          obtain ⟨t, ht, rfl, hK⟩ := hrel
          by_cases htj : t < j
          · obtain ⟨b, off, rfl, hb, ca⟩ := (Q7.out.keep hK) t _ (items_at htj)
            have hti : (t : Int) < (j : Int) := by omega
            have ht0 : (0 : Int) ≤ (t : Int) := by omega
            have htw : IntKind.i64.wrap ((t : Int) + 1) = (t : Int) + 1 := IntWalk.i64_in _ (by omega)
            have u1 : ((t : Int) != (t : Int)) = false := by simp
            go_wp2_with fail
            go_roundw
            case rel => exact ⟨t + 1, by omega, by go_num, hK⟩
            case measure => simp [intOf]; omega
          · go_wp2_with fail
            go_ret
            exact bool_post rfl (K7.out.trans hK)
  · have HS := Lib.hid (fun w => scheme_few P k n w q1 q2 q3 q4 q5 (by omega))
    clear hle
    go_enter Try.func10, Try.ntmps10
    go_wp2_with (first | (go_at_call 11; (with_reducible refine (head_any _).mono ?_); rintro e w1 ⟨rfl, hk1⟩) | (go_at_call 23; (with_reducible refine (base_any a0 _ h0 h0' P EP.out).mono ?_); rintro e w2 ⟨rfl, rfl⟩))
    refine (HS.out _).mono ?_
    rintro e w3 ⟨A3, c3, rfl, q3', hk3⟩
    simp only [List.length_nil]
    clear q3'
    go_wp2_with fail
    go_ret
    exact bool_post rfl (hk1.trans hk3)
set_option maxHeartbeats 1000000 in
theorem law_again (a0 a1 a2 : Int) (l : List Int) (A : Option Addr) (c : Nat) (w : World) (h0 : 0 ≤ a0) (h0' : a0 ≤ 255) (h1 : 0 ≤ a1) (h1' : a1 ≤ 255) (h2 : 0 ≤ a2) (h2' : a2 ≤ 65535) (o : U16s w w.heap.size A l) (len : l.length ≤ maxLen) :
    Calls Try.prog 10 #[.int .u8 a0, .int .u8 a1, .int .u16 a2, .slice A l.length c] w (BoolPost true w) := by
  unfold maxLen at len
  by_cases hm : l.length ≤ 100
  · exact again_in (2 + a0 % 63).toNat (1 + a1 % 4).toNat (1 + a2 % 2000).toNat a0 a1 a2 l A c _ w h0 h0' h1 h1' h2 h2' o rfl hm (by omega) (by omega) (by omega)
  · generalize l.length = m at *
    have t1 : decide (100 < m) = true := by simp; omega
    have t1' : decide ((100 : Int) < (m : Int)) = true := by simp; omega
    clear hm o
    go_enter Try.func10, Try.ntmps10
    go_wp2_with (go_at_call 11; (with_reducible refine (head_any _).mono ?_); rintro e w1 ⟨rfl, hk1⟩)
    go_ret
    exact bool_post rfl hk1
end Go.Proofs.Ytkfcebojfnnieaa
