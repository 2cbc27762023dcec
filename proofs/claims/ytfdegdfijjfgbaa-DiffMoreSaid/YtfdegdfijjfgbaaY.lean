import Derived.Test.YtfdegdfijjfgbaaR
import Derived.Deep.CutRange
import Derived.Test.YtfdegdfijjfgbaaRows
import Derived.WalkKit
import Derived.WalkSpells
import Derived.WalkLawsBesides
import Derived.Laws.EntriesVeiled
import Derived.ProofKit
import Derived.OpenShut
import Derived.Lib.Hide
import Derived.BigQuiet
import Derived.Deep.QuietTactic
import Derived.Below
import Derived.Laws.OwnMore
import Derived.Deep.AppendLies
import Derived.Deep.Draws
import Derived.Laws.Rows
import Derived.Maps.AppendAt
import Derived.RegionTactic
import Derived.OwnWalk
import Derived.Deep.RegionHeld3
namespace Go.Proofs.Ytfdegdfijjfgbaa
open Go.ChangeShapes Go.WideShapes Go.ChangeAt Go.RowKit
set_option linter.unusedSimpArgs false
set_option linter.unusedVariables false
theorem mat_read {N : Nat} {d : Nat → Nat → Int} {zs : List (List Int)} {B : Option Addr} {W : World} (h : NumRows W W.heap.size B zs) (hz : matF N d = zs) {i j : Nat} (hi : i < N) (hj : j < N) :
    ∃ b1 o1 A1 c1, B = some ⟨b1, o1, none⟩ ∧ W.cell? ⟨b1, o1 + i, none⟩ = some (.slice A1 N c1) ∧ ∃ b2 o2, A1 = some ⟨b2, o2, none⟩ ∧ W.cell? ⟨b2, o2 + j, none⟩ = some (.int .i64 (d i j)) := by
  subst hz
  obtain ⟨b1, o1, A1, c1, e1, _, h0, h1⟩ := h i _ (matF_row hi)
  obtain ⟨b2, o2, e2, _, h2⟩ := h1 j _ (row_at hj)
  rw [List.length_map, List.length_range] at h0
  exact ⟨b1, o1, A1, c1, e1, h0, b2, o2, e2, h2⟩
theorem Bnds.grown {w w' : World} {row : Option Nat} {g off : Nat} {l : List Bd} (h : Bnds w w.heap.size (some ⟨g, off, none⟩) l) (hg : w.grownBy w' row) (hne : row ≠ some g) : Bnds w' w'.heap.size (some ⟨g, off, none⟩) l := fun k o hk => by
  obtain ⟨b, off', e, hlt, h0, h1, h2⟩ := h k o hk
  cases e
  have hb : ∀ j, w'.cell? ⟨g, j, none⟩ = w.cell? ⟨g, j, none⟩ := fun j => by
    have hbk := hg.block g hlt (fun e => hne e.symm)
    simp only [World.cell?, hbk]
  exact ⟨g, _, rfl, Nat.lt_of_lt_of_le hlt hg.size, (hb _).trans h0, (hb _).trans h1, (hb _).trans h2⟩
theorem step_app2 {w0 w : World} {ops : Array Oper} {o : Oper} {a : Act} {K : Act → World → Prop} {Q : Exit → Act → World → Prop} {E : Prop} (hgd : o.guard = none) (s x : Operand)
    (ho : o.op = .call { callee := .builtin .append, args := #[s, x], argTypes := #[22, 22] })
    (v : Value) (l : List Bd) (hs : a.eval s = v) (hown : OwnB w0 w v l)
    (A : Option Addr) (m c : Nat) (l2 : List Bd) (hx : a.eval x = .slice A m c) (hr : Bnds w w.heap.size A l2) (hm : Hid (m = l2.length)) (hle : Hid (l.length + l2.length ≤ 1000000))
    (h : ∀ A' n' c' w', OwnB w0 w' (.slice A' n' c') (l ++ l2) → w.grownBy w' v.ownBlock → K (a.put o.dst (.slice A' n' c')) w') : if Region.wanted o (yielded ops a.tmps) = true then Oper.wp Try.prog o a w K Q else E := by
  obtain ⟨i0, hi0, hz0, hz1, hz2⟩ := info32
  have hle' := hle.out
  have hm' := hm.out
  subst hm'
  refine step_append_any w hgd s x 22 ho w0.heap.size 32 i0 _ 3 24 Try.underlying22 hi0 hz0 hz1 hz2 rfl (by decide) v l.length (bdCells l) hs hown.1 w.heap.size A l2.length c (bdCells l2) hx hr.reads (bd_one l2) (by unfold maxLen; omega) (by omega) hown.2.size ?_
  intro v' w' h1 h2 _
  obtain ⟨A', c', rfl⟩ := own_slice h1
  refine h A' _ c' w' ⟨?_, grown_keeps hown.2 h2 (fun k hk => (own_lt hown.1 hk).1)⟩ h2
  rw [← List.length_append, ← bdCells_append] at h1
  rw [← List.length_append]
  exact h1
theorem solve_keep {n most : Int} {l : List Bd} {ls : List Int} {b : Int} (h : SolveTo n most l ls b) : SolveTo n most l ls b := h
theorem rows_same (ls : List (List Int)) (A B : Option Addr) (n c c' : Nat) (w : World) (hl : NumRows w w.heap.size A ls) (hm : NumRows w w.heap.size B ls) (hn : Hid (ls.length ≤ 12)) (hln : Hid (n = ls.length)) (hr : Hid (∀ r ∈ ls, r.length ≤ 12)) :
    Calls Try.prog 15 #[.slice A n c, .slice B n c'] w (BoolPost true w) :=
  rows_any ls ls A B n c n c' w hl hm (by have := hn.out; omega) (by have := hn.out; omega) hln.out hln.out (fun l h => by have := hr.out l h; omega) (fun l h => by have := hr.out l h; omega) true (by simp [sameRows])
theorem ints_same (l : List Int) (A B : Option Addr) (n c c' : Nat) (w : World) (hs : Nums .i64 w w.heap.size A l) (hd : Nums .i64 w w.heap.size B l) (h : Hid (l.length ≤ 12)) (hl : Hid (n = l.length)) : Calls Try.prog 18 #[.slice A n c, .slice B n c'] w (BoolPost true w) :=
  ints_any l l A B n c n c' w hs hd (by have := h.out; omega) (by have := h.out; omega) hl.out hl.out true (by simp [same])
theorem rev_next {l : List Bd} {k : Nat} {b : Bd} (h : l[k]? = some b) : (l.drop (k + 1)).reverse ++ [b] = (l.drop k).reverse := by
  have hk := (List.getElem?_eq_some_iff.1 h).1
  rw [List.drop_eq_getElem_cons hk, (List.getElem?_eq_some_iff.1 h).2]; simp
set_option maxHeartbeats 8000000 in
set_option maxRecDepth 100000 in
theorem law_more (n most : Int) (l : List Bd) (A : Option Addr) (c : Nat) (bf bt bm : Int) (w : World) (o : Bnds w w.heap.size A l) (len : l.length ≤ maxLen) :
    Calls Try.prog 6 #[.int .i64 n, .int .i64 most, .slice A l.length c, .agg #[.int .i64 bf, .int .i64 bt, .int .i64 bm]] w (BoolPost true w) := by
  unfold maxLen at len
  obtain ⟨m, hm⟩ : ∃ m, m = l.length := ⟨_, rfl⟩
  rw [← hm] at len ⊢
  have HM := Lib.hid hm
  have K0 := Lib.hid (show Keeps w (w.alloc (.cells #[.int .i64 bf, .int .i64 bt, .int .i64 bm] 32)) from (Keeps.refl w).alloc _)
  have O := Lib.hid (o.keep K0.out)
  have BX := Lib.hid (Blk.new w 32 #[.int .i64 bf, .int .i64 bt, .int .i64 bm])
  clear o hm
  by_cases t1 : 12 < n
  · have t1' : decide (12 < n) = true := by simpa using t1
    go_enter Try.func6, Try.ntmps6
    go_wp2_with (go_at_call 9; (with_reducible refine (head_any _).mono ?_); rintro e w1 ⟨rfl, hk1⟩)
    go_ret
    exact bool_post rfl (K0.out.trans hk1)
  have t1' : decide (12 < n) = false := by simpa using t1
  by_cases t2 : 20 < m
  · have t2' : decide (20 < m) = true := by simpa using t2
    have t2'' : decide ((20 : Int) < (m : Int)) = true := by simp; omega
    go_enter Try.func6, Try.ntmps6
    go_wp2_with (go_at_call 9; (with_reducible refine (head_any _).mono ?_); rintro e w1 ⟨rfl, hk1⟩)
    go_ret
    exact bool_post rfl (K0.out.trans hk1)
  have t2' : decide (20 < m) = false := by simpa using t2
  have t2'' : decide ((20 : Int) < (m : Int)) = false := by simp; omega
  have f3 : l.length ≤ 400 := by have := HM.out; omega
  cases hv : validB n l
  · have HV := Lib.hid hv; clear hv
    go_enter Try.func6, Try.ntmps6
    go_wp2_with (first | (go_at_call 9; (with_reducible refine (head_any _).mono ?_); rintro e w1 ⟨rfl, hk1⟩) | (go_at_call 11; (with_reducible refine (rvalid_is n l A m c _ (O.out.keep hk1) f3 HM false HV).mono ?_); rintro e w3 ⟨rfl, hk3⟩))
    go_ret
    exact bool_post rfl ((K0.out.trans hk1).trans hk3)
  have hn0 := (valid_n hv).1
  have h12 : n ≤ 12 := by omega
  have hsame : ∀ x, x ∈ l ↔ x ∈ l ++ l.reverse := fun x => by simp
  have hlen2 : (l ++ l.reverse).length ≤ 400 := by have := HM.out; simp; omega
  obtain ⟨ls, b0, hc1, hc2, hl1, hl2, hsay⟩ := close_alike hsame hv h12 f3 hlen2
  obtain ⟨xs, b1, hs1, hs2, hl3⟩ := solve_alike (most := most) hsame hv h12 f3 hlen2
  have HV := Lib.hid hv; have HC1 := Lib.hid hc1; have HC2 := Lib.hid hc2; have HS1 := Lib.hid hs1; have HS2 := Lib.hid hs2; have HL1 := Lib.hid hl1; have HL2 := Lib.hid hl2; have HL3 := Lib.hid hl3; have HSAY := Lib.hid hsay
  have u0 : (b0 != b0) = false := by simp
  have u1 : (b1 != b1) = false := by simp
  have hmw : IntKind.i64.wrap ((m : Int) - 1) = (m : Int) - 1 := IntWalk.i64_in _ (by omega)
  have L0 := Lib.hid (show ([] : List Bd).length + l.length ≤ 1000000 by simp; omega)
  clear hv hsame hc1 hc2 hs1 hs2 hl1 hl2 hl3 hsay hlen2
  obtain ⟨r, hr⟩ : ∃ r, r = ls.length := ⟨_, rfl⟩
  obtain ⟨s, hs⟩ : ∃ s, s = xs.length := ⟨_, rfl⟩
  have HR := Lib.hid hr; have HSX := Lib.hid hs
  generalize hW : w.alloc (.cells #[.int .i64 bf, .int .i64 bt, .int .i64 bm] 32) = W0 at *
  have HW := Lib.hid hW; clear hW
  go_enter Try.func6, Try.ntmps6
  go_wp2_with (first | (go_at_call 9; rw [HW.out]; (with_reducible refine (head_any _).mono ?_); rintro e w1 ⟨rfl, hk1⟩) | (go_at_call 11; (with_reducible refine (rvalid_is n l A m c _ (O.out.keep hk1) f3 HM true HV).mono ?_); rintro e w2 ⟨rfl, hk2⟩) | (go_at_call 12; (with_reducible refine (close_to HC1 A m c _ (O.out.keep (hk1.trans hk2)) HM).mono ?_); rintro e w3 ⟨B1, d1, rfl, q1, hk3⟩; have Q1 := Lib.hid q1; clear q1) | (go_at_call 17; (with_reducible refine (solve_to HS1 A m c _ (O.out.keep ((hk1.trans hk2).trans hk3)) HM).mono ?_); rintro e w4 ⟨B2, d2, rfl, q2, hk4⟩; have Q2 := Lib.hid q2; clear q2; have K4 := Lib.hid (((hk1.trans hk2).trans hk3).trans hk4); have Q1' := Lib.hid (Q1.out.keep hk4); clear hk1 hk2 hk3 hk4 Q1; have O0 := Lib.hid (OwnB.lit (Keeps.refl w4)); have OL := Lib.hid (O.out.keep (K4.out.trans O0.out.2))) | (at_builtin; refine (wpList_app rfl (.tmp 53) (.tmp 54) rfl _ [] rfl O0.out A m c l rfl OL.out HM L0 ?_); intro A7 n7 c7 w7 ho7; have O7 := Lib.hid ho7; clear ho7 O0 OL))
  go_loopw [14, 15] (fun x i wr => ∃ (k : Nat) (A' : Option Addr) (n' d : Nat), k ≤ m ∧ x = .slice A' n' d ∧ i = .int .i64 ((k : Int) - 1) ∧ OwnB w4 wr (.slice A' n' d) (l ++ (l.drop k).reverse)) (fun _ i _ => (intOf i + 1).toNat)
  case atStart => exact ⟨m, A7, n7, c7, Nat.le_refl _, rfl, rfl, by have h := O7.out; rw [List.drop_eq_nil_of_le (by rw [← HM.out]; exact Nat.le_refl _)]; simpa using h⟩
  case round =>
    obtain ⟨k, A', n', d', hk, rfl, hi, hO⟩ := hrel
    have HO := Lib.hid hO; clear hO
    rcases k with _ | j
    · obtain rfl : u15 = .int .i64 (-1) := by rw [hi]; rfl
      clear hi
      rw [List.drop_zero] at HO
      obtain ⟨hb0, hb1⟩ := HO.out.bnds
      have HBT := Lib.hid hb0; have HNT := Lib.hid hb1
      have hk5 := HO.out.2
      have Q1 := Lib.hid (Q1'.out.keep hk5); have Q2' := Lib.hid (Q2.out.keep hk5); have K5 := Lib.hid (K4.out.trans hk5)
      clear hb0 hb1 HO hk5 O7
      go_upto_region 13 with (first | (go_at_call 12; (with_reducible refine (close_to HC2 A' n' d' _ HBT.out HNT).mono ?_); rintro e w5 ⟨B3, d3, rfl, q3, hk5⟩; have Q3 := Lib.hid q3; clear q3) | (go_at_call 17; (with_reducible refine (solve_to HS2 A' n' d' _ (HBT.out.keep hk5) HNT).mono ?_); rintro e w6 ⟨B4, d4, rfl, q4, hk6⟩; have Q4 := Lib.hid q4; clear q4))
      have R3 := Lib.hid (Q3.out.keep hk6)
      have hk7 := hk5.trans hk6
      have R1 := Lib.hid (Q1.out.keep hk7); have R2 := Lib.hid (Q2'.out.keep hk7); have K6 := Lib.hid (K5.out.trans hk7)
      clear hk5 hk6 hk7 Q3 Q1 Q2' K5 K4 HBT
      go_upto_region 15 with (first | (go_at_call 15; (with_reducible refine (rows_same ls B1 B3 _ d1 d3 _ R1.out R3.out HL1 (Lib.hid rfl) HL2).mono ?_); rintro e w7 ⟨rfl, hk8⟩) | (go_at_call 18; (with_reducible refine (ints_same xs B2 B4 _ d2 d4 _ (R2.out.keep hk8) (Q4.out.keep hk8) HL3 (Lib.hid rfl)).mono ?_); rintro e w8 ⟨rfl, hk9⟩))
      have hk10 := hk8.trans hk9
      have K8 := Lib.hid (K6.out.trans hk10)
      have R1' := Lib.hid (R1.out.keep hk10)
      clear hk8 hk9 hk10 R1 R2 R3 Q4 K6 HC2 HS2
      have BX8 := BX.out.below K8.out BX.out.lt
      have x0 : w8.cell? ⟨w.heap.size, 0, none⟩ = some (.int .i64 bf) := BX8.cell 0
      have x1 : w8.cell? ⟨w.heap.size, 1, none⟩ = some (.int .i64 bt) := BX8.cell 1
      have x2 : w8.cell? ⟨w.heap.size, 2, none⟩ = some (.int .i64 bm) := BX8.cell 2
      clear BX8
      go_cut [20] from 103 (fun v wx => ∃ A' n' c', v = .slice A' n' c' ∧ OwnB w8 wx (.slice A' n' c') (l ++ [⟨bf, bt, bm⟩]))
      case first =>
        have SOF := Lib.hid (show ∀ X, Keeps w8 X → (fun w' => w'.cell? ⟨w.heap.size, 0, none⟩ = some (.int .i64 bf) ∧ w'.cell? ⟨w.heap.size, 1, none⟩ = some (.int .i64 bt) ∧ w'.cell? ⟨w.heap.size, 2, none⟩ = some (.int .i64 bm) ∧ Keeps w8 w') X from fun X hX => ⟨cell_keep x0 hX, cell_keep x1 hX, cell_keep x2 hX, hX⟩)
        have OW := Lib.hid (fun X (hX : Keeps w8 X) => O.out.keep (K8.out.trans hX))
        have L1 := Lib.hid (show l.length + [(⟨bf, bt, bm⟩ : Bd)].length ≤ 1000000 by have := HM.out; simp; omega)
        have ONE := Lib.hid (show 1 = [(⟨bf, bt, bm⟩ : Bd)].length from rfl)
        have E1 := Lib.hid (OwnB.lit (Keeps.refl w8))
        have E2 := Lib.hid (E1.out.keep ((Keeps.refl _).alloc (.cells #[.int .i64 bf, .int .i64 bt, .int .i64 bm] 32)))
        have E3 : Hid (OwnB w8 ((w8.alloc (.cells #[.int .i64 bf, .int .i64 bt, .int .i64 bm] 32)).alloc (.cells #[] 32)) (.slice (some ⟨w8.heap.size + 1, 0, none⟩) 0 0) []) := by
          have h := OwnB.lit (show Keeps w8 (w8.alloc (.cells #[.int .i64 bf, .int .i64 bt, .int .i64 bm] 32)) from (Keeps.refl w8).alloc _)
          rw [World.size_alloc] at h; exact h
        have X2 : Hid (Bnds ((w8.alloc (.cells #[] 32)).alloc (.cells #[.int .i64 bf, .int .i64 bt, .int .i64 bm] 32)) ((w8.alloc (.cells #[] 32)).alloc (.cells #[.int .i64 bf, .int .i64 bt, .int .i64 bm] 32)).heap.size (some ⟨w8.heap.size + 1, 0, none⟩) [⟨bf, bt, bm⟩]) := by
          have h := bnds_one (w8.alloc (.cells #[] 32)) bf bt bm
          rw [World.size_alloc w8 (.cells #[] 32)] at h; exact h
        have X3 := Lib.hid ((bnds_one w8 bf bt bm).keep ((Keeps.refl _).alloc (.cells #[] 32)))
        go_region_held3 (fun w' => w'.cell? ⟨w.heap.size, 0, none⟩ = some (.int .i64 bf) ∧ w'.cell? ⟨w.heap.size, 1, none⟩ = some (.int .i64 bt) ∧ w'.cell? ⟨w.heap.size, 2, none⟩ = some (.int .i64 bm) ∧ Keeps w8 w') ((refine SOF.out _ ?_; (repeat (first | exact Keeps.refl _ | exact hkA | exact hkB | assumption | apply Keeps.drew | apply Keeps.alloc)); done))
          (first
            | (refine step_app2 (by rfl) (.tmp 103) (.tmp 104) (by rfl) _ [] (by rfl) (by first | exact E1.out | exact E2.out | exact E3.out | exact E1.out.keep (Keeps.refl _).drew | exact E2.out.keep (Keeps.refl _).drew | exact E3.out.keep (Keeps.refl _).drew) A m c l (by rfl) (OW.out _ (by (repeat (first | exact Keeps.refl _ | apply Keeps.drew | apply Keeps.alloc)); done)) HM L0 ?_; intro A7 n7 c7 w7 ho7 hg7; replace ho7 : OwnB w8 w7 (.slice A7 n7 c7) l := ho7; have hkA : Keeps w8 w7 := ho7.2; have G7 := Lib.hid hg7; clear hg7)
            | (refine step_app2 (by rfl) (.tmp 105) (.tmp 107) (by rfl) _ l (by rfl) (by first | exact ho7 | exact ho7.keep ((Keeps.refl _).alloc _) | exact ho7.keep ((Keeps.refl _).alloc _).drew | exact ho7.keep (Keeps.refl _).drew) _ _ _ [⟨bf, bt, bm⟩] (by rfl) (by first | exact bnds_one w7 bf bt bm | exact (bnds_one w7 bf bt bm).keep (Keeps.refl _).drew | exact X2.out.grown G7.out (show (some w8.heap.size : Option Nat) ≠ some (w8.heap.size + 1) by simp) | exact X3.out.grown G7.out (show (some (w8.heap.size + 1) : Option Nat) ≠ some w8.heap.size by simp) | exact (X2.out.keep (Keeps.refl _).drew).grown G7.out (show (some w8.heap.size : Option Nat) ≠ some (w8.heap.size + 1) by simp) | exact (X3.out.keep (Keeps.refl _).drew).grown G7.out (show (some (w8.heap.size + 1) : Option Nat) ≠ some w8.heap.size by simp) | exact (X2.out.grown G7.out (show (some w8.heap.size : Option Nat) ≠ some (w8.heap.size + 1) by simp)).keep (Keeps.refl _).drew | exact (X3.out.grown G7.out (show (some (w8.heap.size + 1) : Option Nat) ≠ some w8.heap.size by simp)).keep (Keeps.refl _).drew) ONE L1 ?_; intro A8 n8 c8 w8' ho8 hg8; have hkB : Keeps w8 w8' := ho8.2; clear hg8))
        all_goals (go_wp2_with fail; go_meet; exact ⟨A8, n8, c8, rfl, ho8⟩)
      case rest =>
        obtain ⟨A9, n9, c9, rfl, ho9⟩ := hcut
        obtain ⟨hb0, hb1⟩ := ho9.bnds
        have HB9 := Lib.hid hb0; have HN9 := Lib.hid hb1
        have K9 := Lib.hid (K8.out.trans ho9.2)
        have R1 := Lib.hid (R1'.out.keep ho9.2)
        have L9 : (l ++ [(⟨bf, bt, bm⟩ : Bd)]).length ≤ 400 := by have := HM.out; simp; omega
        clear hb0 hb1 ho9 R1' K8 x0 x1 x2
        cases hvm : validB n (l ++ [⟨bf, bt, bm⟩])
        · have HVM := Lib.hid hvm; clear hvm
          go_wp2_with (go_at_call 11; (with_reducible refine (rvalid_is n _ A9 n9 c9 _ HB9.out L9 HN9 false HVM).mono ?_); rintro e w10 ⟨rfl, hk10⟩)
          go_ret
          exact bool_post rfl ((K0.out.trans K9.out).trans hk10)
        obtain ⟨bz, dz, hsz, hcz⟩ := close_law hvm h12 L9
        have HVM := Lib.hid hvm
        rcases hsz with ⟨rfl, hnz, hdz⟩ | ⟨rfl, hnz⟩
        case inr =>
          have HCZ := Lib.hid hcz
          clear hvm hcz hnz
          go_wp2_with (first | (go_at_call 11; (with_reducible refine (rvalid_is n _ A9 n9 c9 _ HB9.out L9 HN9 true HVM).mono ?_); rintro e w10 ⟨rfl, hk10⟩) | (go_at_call 12; (with_reducible refine (close_no HCZ A9 n9 c9 _ (HB9.out.keep hk10) HN9).mono ?_); rintro e w11 ⟨B9, d9, rfl, q9, hk11⟩; clear q9))
          go_ret
          exact bool_post rfl (((K0.out.trans K9.out).trans hk10).trans hk11)
        obtain ⟨N, rfl⟩ : ∃ N : Nat, n = (N : Int) := ⟨n.toNat, by omega⟩
        have hN : N ≤ 12 := by omega
        rw [Int.toNat_natCast] at hdz
        have hlb := (close_iff hvm hN).2 hnz
        obtain ⟨ml1, ml2⟩ := more_le hvm hN hlb
        have hsay := HSAY.out
        rw [Int.toNat_natCast] at hsay
        rcases hsay with ⟨rfl, _, hls, hLl⟩ | ⟨_, hno⟩
        case inr => exact absurd ml1 hno
        have hle : ∀ i j, i < N → j < N → dz i j ≤ closeM N l i j := fun i j hi hj => by
          rw [hdz.eq (close_least hvm hN hlb) (fun _ _ c hw => ⟨c, hw, Int.le_refl _⟩) (fun _ _ c hw => ⟨c, hw, Int.le_refl _⟩) i j hi hj]
          exact ml2 _ hLl i j hi hj
        have hlsN : ls.length = N := by rw [hls]; exact matF_len N _
        obtain ⟨zs, hzs⟩ : ∃ zs, matF N dz = zs := ⟨_, rfl⟩
        have hzN : zs.length = N := by rw [← hzs]; exact matF_len N _
        have HLE := Lib.hid hle; have HLS := Lib.hid hls.symm; have HZS := Lib.hid hzs; have HCZ := Lib.hid hcz
        clear hvm hcz hnz hdz hlb ml1 ml2 hls hLl hle hzs HSAY HC1 HS1 u0 hr hs HR HSX
        go_wp2_with (first | (go_at_call 11; (with_reducible refine (rvalid_is N _ A9 n9 c9 _ HB9.out L9 HN9 true HVM).mono ?_); rintro e w10 ⟨rfl, hk10⟩) | (go_at_call 12; (with_reducible refine (close_yes HCZ HZS A9 n9 c9 _ (HB9.out.keep hk10) HN9).mono ?_); rintro e w11 ⟨B9, d9, rfl, q9, hk11⟩; have Q9 := Lib.hid q9; clear q9) | (go_at_call 13; (with_reducible refine (square_is N dz B9 N d9 _ (by rw [HZS.out]; exact Q9.out) (by omega) rfl).mono ?_); rintro e w12 ⟨rfl, hk12⟩) | (go_at_call 13; (with_reducible refine (square_is N (closeM N l) B1 N d1 _ (by rw [HLS.out]; exact R1.out.keep ((hk10.trans hk11).trans hk12)) (by omega) rfl).mono ?_); rintro e w13 ⟨rfl, hk13⟩))
        have KZ := Lib.hid ((((K0.out.trans K9.out).trans hk10).trans hk11).trans (hk12.trans hk13))
        have QZ := Lib.hid (Q9.out.keep (hk12.trans hk13)); have QM := Lib.hid (R1.out.keep ((hk10.trans hk11).trans (hk12.trans hk13)))
        clear hk10 hk11 hk12 hk13 Q9 R1 K9 HB9
        go_loopw [23] (fun i wr => ∃ q : Nat, q ≤ N ∧ i = .int .i64 (q : Int) ∧ Keeps w13 wr) (fun i _ => N - (intOf i).toNat)
        case atStart => exact ⟨0, by omega, rfl, Keeps.refl _⟩
        case round =>
          obtain ⟨q, hq, rfl, hK⟩ := hrel
          by_cases hqn : q < N
          · have hqi : (q : Int) < (N : Int) := by omega
            have hq00 : (0 : Int) ≤ (q : Int) := by omega
            have hqw : IntKind.i64.wrap ((q : Int) + 1) = (q : Int) + 1 := IntWalk.i64_in _ (by omega)
            go_wp2_with fail
            go_loopw [24] (fun i wr => ∃ p : Nat, p ≤ N ∧ i = .int .i64 (p : Int) ∧ Keeps w13 wr) (fun i _ => N - (intOf i).toNat)
            case atStart => exact ⟨0, by omega, rfl, hK⟩
            case round =>
              clear hK
              obtain ⟨p, hp, rfl, hK⟩ := hrel
              by_cases hpn : p < N
              · have hpi : (p : Int) < (N : Int) := by omega
                have hp00 : (0 : Int) ≤ (p : Int) := by omega
                have hpw : IntKind.i64.wrap ((p : Int) + 1) = (p : Int) + 1 := IntWalk.i64_in _ (by omega)
                obtain ⟨z1, o1, Z1, zc, ez, hz0, z2, o2, ez2, hz1⟩ := mat_read (QZ.out.keep hK) HZS.out hqn hpn
                obtain ⟨m1, p1, M1, mc, em, hm0, m2, p2, em2, hm1⟩ := mat_read (QM.out.keep hK) HLS.out hqn hpn
                have hlt := HLE.out q p hqn hpn
                generalize dz q p = x at *
                generalize closeM N l q p = y at *
                have hcmp : decide (y < x) = false := by simp; omega
                subst ez ez2 em em2
                clear hlt
                go_wp2_with fail
                go_quiet (fail)
                go_wp2_with fail
                go_roundw
                case rel => first | exact ⟨p + 1, by omega, by go_num, hK.drewN _⟩ | ((repeat apply Exists.intro); exact ⟨⟨p + 1, by omega, by go_num, hK.drewN _⟩, rfl⟩)
                case measure => simp [intOf]; omega
              · go_wp2_with fail
                go_roundw
                case rel => first | exact ⟨q + 1, by omega, by go_num, hK⟩ | ((repeat apply Exists.intro); exact ⟨⟨q + 1, by omega, by go_num, hK⟩, rfl⟩)
                case measure => simp [intOf]; omega
          · go_wp2_with fail
            go_ret
            exact bool_post rfl (KZ.out.trans hK)
    · obtain rfl : u15 = .int .i64 (j : Int) := by rw [hi]; congr 1; omega
      clear hi
      have hok : l[j]? = some (l[j]'(by rw [← HM.out]; omega)) := List.getElem?_eq_getElem _
      generalize l[j]'(by rw [← HM.out]; omega) = b at hok
      obtain ⟨bb, off, rfl, hb, c0, c1, c2⟩ := (O.out.keep (K4.out.trans HO.out.2)) j b hok
      have HTN := Lib.hid (rev_next hok)
      clear hok
      have hji : (j : Int) < (m : Int) := by omega
      have hj00 : (0 : Int) ≤ (j : Int) := by omega
      have hjw : IntKind.i64.wrap ((j : Int) - 1) = (j : Int) - 1 := IntWalk.i64_in _ (by omega)
      have hj0' : decide ((0 : Int) ≤ (j : Int)) = true := by simp
      obtain ⟨ef, et, em⟩ := b
      simp only at c0 c1 c2
      have H2 := Lib.hid (HO.out.keep ((Keeps.refl wr).alloc (.cells #[.int .i64 ef, .int .i64 et, .int .i64 em] 32)))
      have X2 := Lib.hid (bnds_one wr ef et em)
      have L1 := Lib.hid (show (l ++ (l.drop (j + 1)).reverse).length + [(⟨ef, et, em⟩ : Bd)].length ≤ 1000000 by have := HM.out; simp; omega)
      have ONE := Lib.hid (show 1 = [(⟨ef, et, em⟩ : Bd)].length from rfl)
      clear HO O7
      go_wp2_with (at_builtin; refine (wpList_app rfl (.tmp 63) (.tmp 68) rfl _ _ rfl H2.out _ _ _ [⟨ef, et, em⟩] rfl X2.out ONE L1 ?_); intro A8 n8 c8 w8 ho8; have O8 := Lib.hid ho8; clear ho8 H2 X2)
      go_roundw
      case rel => exact ⟨j, A8, n8, c8, by omega, rfl, by go_num, by have h := O8.out; rw [List.append_assoc, HTN.out] at h; exact h⟩
      case measure => simp [intOf]; try omega
end Go.Proofs.Ytfdegdfijjfgbaa
