/- Part of the proofs of TopMoney and TopOrders. Conditions: as stated in each theorem. -/
import Derived.Test.YthkmpegpmpdhaaaRv
import Derived.Deep.CutRange
import Derived.StillTailTactics
import Derived.Lib.SliceRun
import Derived.RangeFuncRecord
import Derived.Carry
import Derived.ChangeKeysEq
import Derived.Shelf.SlSortCmp.Insertion1
import Derived.Shelf.Lay
import Derived.Ground.SlsfProg
import Derived.Sort.LotA
import Derived.Test.YthkmpegpmpdhaaaRows
import Derived.WalkKit
import Derived.WalkSpells
import Derived.WalkLawsBesides
import Derived.Laws.EntriesVeiled
import Derived.ProofKit
import Derived.OpenShut
import Derived.Lib.Hide
import Derived.BigQuiet
import Derived.Deep.QuietTactic
import Derived.Below
import Derived.Laws.OwnMore
import Derived.Deep.AppendLies
import Derived.Deep.Draws
import Derived.Laws.Rows
import Derived.Maps.AppendAt
import Derived.RegionTactic
import Derived.OwnWalk
import Derived.Deep.RegionHeld3
namespace Go.Proofs.Ythkmpegpmpdhaaa
open Go.Shelf Go.Sort Go.ChangeShapes Go.WideShapes Go.ChangeAt Go.RowKit
set_option linter.unusedSimpArgs false
set_option linter.unusedVariables false
instance decFar (d : List (List Int)) (a x b y : Int) : Decidable (Far d a x b y) := by unfold Far; infer_instance
theorem HoldsP.far_at {d : List (List Int)} {es : List Ev} {ts : List Int} (h : HoldsP d es ts) {i j : Nat} (hij : i < j) (hj : j < es.length) : FarI d es ts i j ∨ FarI d es ts j i := h.far i j hij hj
set_option maxRecDepth 100000 in
set_option maxHeartbeats 4000000 in
theorem before_any (d : List (List Int)) (l : List EvC) (ts : List Int) (dA eA tA : Option Addr) (dc n ec tc g1 g2 g3 : Nat) (w : World) (h : NumRows w w.heap.size dA d) (hd : DistOk d) (he : RecIn evR w w.heap.size eA l) (ht : RecIn intR w w.heap.size tA ts) (hln : Hid (n = l.length)) (htn : Hid (n = ts.length)) (hn : n ≤ 15)
    (b1 : Blk w g1 46 #[.slice dA d.length dc]) (b2 : Blk w g2 47 #[.slice eA n ec]) (b3 : Blk w g3 28 #[.slice tA n tc]) (x y : EvC) (i j : Nat) (hx : l[i]? = some x) (hy : l[j]? = some y) (hox : isOff d x.1.o) (hoy : isOff d y.1.o)
    (hti : -1000000000 ≤ at0 ts i ∧ at0 ts i ≤ 1000000000) (htj : -1000000000 ≤ at0 ts j ∧ at0 ts j ≤ 1000000000) (r : Bool) (hr : Hid (decide (Far d x.1.o (at0 ts i) y.1.o (at0 ts j)) = r)) :
    Calls Try.prog 43 #[.int .i64 (i : Int), .int .i64 (j : Int), .pointer (some ⟨g1, 0, none⟩), .pointer (some ⟨g2, 0, none⟩), .pointer (some ⟨g3, 0, none⟩)] w (BoolPost r w) := by
  have c1 : w.cell? ⟨g1, 0, none⟩ = some (.slice dA d.length dc) := b1.cell 0
  have c2 : w.cell? ⟨g2, 0, none⟩ = some (.slice eA n ec) := b2.cell 0
  have c3 : w.cell? ⟨g3, 0, none⟩ = some (.slice tA n tc) := b3.cell 0
  have hil : i < n := by have := (List.getElem?_eq_some_iff.1 hx).1; have := hln.out; omega
  have hjl : j < n := by have := (List.getElem?_eq_some_iff.1 hy).1; have := hln.out; omega
  obtain ⟨eb, eo, rfl, heb, e0, -, -, -⟩ := he.ev hx
  obtain ⟨eb', eo', e, -, f0, -, -, -⟩ := he.ev hy
  cases e
  obtain ⟨tb, tf, rfl, htb, u0⟩ := ht.int (get_at0 (l := ts) (i := i) (by have := htn.out; omega))
  obtain ⟨tb', tf', e, -, v0⟩ := ht.int (get_at0 (l := ts) (i := j) (by have := htn.out; omega))
  cases e
  obtain ⟨db, dof, A', c', b2', of2, rfl, hdb, cr, rfl, hb2, cc⟩ := rows_at h hd hox hoy
  have hbn := hd.bnd _ _ hox hoy
  have i1 : (0 : Int) ≤ (i : Int) ∧ (i : Int) < (n : Int) := ⟨by omega, by omega⟩
  have i2 : (0 : Int) ≤ (j : Int) ∧ (j : Int) < (n : Int) := ⟨by omega, by omega⟩
  have i3 : (0 : Int) ≤ x.1.o ∧ x.1.o < (d.length : Int) := hox
  have i4 : (0 : Int) ≤ y.1.o ∧ y.1.o < (d.length : Int) := hoy
  obtain ⟨xo, hxo⟩ : ∃ q, x.1.o = q := ⟨_, rfl⟩
  obtain ⟨yo, hyo⟩ : ∃ q, y.1.o = q := ⟨_, rfl⟩
  obtain ⟨ti, hti'⟩ : ∃ q, at0 ts i = q := ⟨_, rfl⟩
  obtain ⟨tj, htj'⟩ : ∃ q, at0 ts j = q := ⟨_, rfl⟩
  obtain ⟨fr, hfr⟩ : ∃ q, dist d x.1.o y.1.o = q := ⟨_, rfl⟩
  have hFar : Far d x.1.o (at0 ts i) y.1.o (at0 ts j) ↔ (0 ≤ fr ∧ fr ≤ tj - ti) := by unfold Far; rw [hfr, hti', htj']
  rw [hfr] at cc hbn
  rw [hxo] at e0 i3 cr
  rw [hyo] at f0 i4 cc
  rw [hti'] at u0 hti
  rw [htj'] at v0 htj
  have HFar := Lib.hid hFar
  have hsw : IntKind.i64.wrap (tj - ti) = tj - ti := wrap_in (by omega) (by omega)
  have K0 := Lib.hid (Keeps.refl w)
  clear h he ht hox hoy b1 b2 b3 hFar hx hy hxo hyo hti' htj' hfr
  by_cases h1 : 0 ≤ fr
  · have t1 : decide (0 ≤ fr) = true := by simpa using h1
    by_cases h2 : fr ≤ tj - ti
    · have t2 : decide (fr ≤ tj - ti) = true := by simpa using h2
      have E := Lib.hid (show true = r by rw [← hr.out]; symm; rw [decide_eq_true_eq]; exact HFar.out.2 ⟨h1, h2⟩)
      clear h2
      go_enter Try.func43, Try.ntmps43
      go_wp2_with fail
      go_quiet (fail)
      go_wp2_with fail
      go_quiet (fail)
      go_wp2_with fail
      go_ret
      exact bool_post E.out.symm ((K0.out.drewN _).drewN _)
    · have t2 : decide (fr ≤ tj - ti) = false := by simpa using h2
      have E := Lib.hid (show false = r by rw [← hr.out]; symm; rw [decide_eq_false_iff_not]; exact fun h => h2 (HFar.out.1 h).2)
      clear h2
      go_enter Try.func43, Try.ntmps43
      go_wp2_with fail
      go_quiet (fail)
      go_wp2_with fail
      go_quiet (fail)
      go_wp2_with fail
      go_ret
      exact bool_post E.out.symm ((K0.out.drewN _).drewN _)
  · have t1 : decide (0 ≤ fr) = false := by simpa using h1
    have E := Lib.hid (show false = r by rw [← hr.out]; symm; rw [decide_eq_false_iff_not]; exact fun h => h1 (HFar.out.1 h).1)
    go_enter Try.func43, Try.ntmps43
    go_wp2_with fail
    go_quiet (fail)
    go_wp2_with fail
    go_quiet (fail)
    go_wp2_with fail
    go_ret
    exact bool_post E.out.symm ((K0.out.drewN _).drewN _)
/-- The variables of Holds. -/
structure HBox (a b c : Value) (g : Nat) (w0 w : World) : Prop where
  k : Keeps w0 w
  b1 : Blk w g 46 #[a]
  b2 : Blk w (g + 1) 47 #[b]
  b3 : Blk w (g + 1 + 1) 28 #[c]
theorem HBox.keep {a b c : Value} {g : Nat} {w0 w w' : World} (h : HBox a b c g w0 w) (hk : Keeps w w') : HBox a b c g w0 w' := ⟨h.k.trans hk, h.b1.below hk h.b1.lt, h.b2.below hk h.b2.lt, h.b3.below hk h.b3.lt⟩
theorem HBox.made (a b c : Value) (w : World) : HBox a b c w.heap.size w (((w.alloc (.cells #[a] 46)).alloc (.cells #[b] 47)).alloc (.cells #[c] 28)) := by
  refine ⟨(((Keeps.refl w).alloc _).alloc _).alloc _, ((Blk.new w 46 #[a]).alloc _).alloc _, ?_, ?_⟩
  · have := (Blk.new (w.alloc (.cells #[a] 46)) 47 #[b]).alloc (.cells #[c] 28)
    rw [World.size_alloc] at this
    exact this
  · have := Blk.new ((w.alloc (.cells #[a] 46)).alloc (.cells #[b] 47)) 28 #[c]
    rw [World.size_alloc, World.size_alloc] at this
    exact this
def CntX (n : Nat) (a b c : Value) (g : Nat) (w0 : World) (v : Value) (w : World) : Prop := ∃ k : Nat, k ≤ n ∧ v = .int .i64 (k : Int) ∧ HBox a b c g w0 w
set_option maxRecDepth 100000 in
set_option maxHeartbeats 8000000 in
theorem holdsO_any (d : List (List Int)) (l : List EvC) (ts : List Int) (dA eA tA : Option Addr) (N dc n ec tc : Nat) (w : World) (h : NumRows w w.heap.size dA d) (hd : DistOk d) (hN : Hid (d.length = N)) (hd12 : N ≤ 12) (he : RecIn evR w w.heap.size eA l) (hln : Hid (n = l.length)) (hn : n ≤ 15)
    (ho : ∀ e ∈ l, isOff d e.1.o) (ht : RecIn intR w w.heap.size tA ts) (htn : Hid (n = ts.length)) (hh : HoldsP d (l.map (·.1)) ts) :
    Calls Try.prog 16 #[.slice dA N dc, .slice eA n ec, .slice none 0 0, .slice tA n tc] w (BoolPost true w) := by
  have HD := Lib.hid h
  have HE := Lib.hid he
  have HT := Lib.hid ht
  have HO := Lib.hid ho
  have HH := Lib.hid hh
  have X0 := Lib.hid (HBox.made (.slice dA N dc) (.slice eA n ec) (.slice tA n tc) w)
  have nn : ((n : Int) != (n : Int)) = false := by simp
  clear h he ht ho hh
  go_enter Try.func16, Try.ntmps16
  go_upto_region 4 with (go_at_call 36; (with_reducible refine (wellO_any d l dA eA N dc n ec _ (HD.out.keep X0.out.k) hd hN hd12 (HE.out.keep X0.out.k) hln (by omega) HO.out).mono ?_); rintro e w1 ⟨rfl, hk1⟩; have X1 := Lib.hid (X0.out.keep hk1); have x2 : w1.cell? ⟨w.heap.size + 1, 0, none⟩ = some (.slice eA n ec) := X1.out.b2.cell 0; have x3 : w1.cell? ⟨w.heap.size + 1 + 1, 0, none⟩ = some (.slice tA n tc) := X1.out.b3.cell 0; clear hk1)
  clear X0 x2 x3
  have HTB := Lib.hid (show ∀ k : Nat, k < n → -1000000000 ≤ at0 ts k ∧ at0 ts k ≤ 1000000000 from fun k hk => by
    have hkl : k < (l.map (·.1)).length := by simp; have := hln.out; omega
    have := HH.out.win k _ (List.getElem?_eq_getElem hkl)
    omega)
  go_loopw [9, 10, 33] (fun _ _ c wr => CntX n (.slice dA N dc) (.slice eA n ec) (.slice tA n tc) w.heap.size w c wr) (fun _ _ c _ => n - (intOf c).toNat)
  case atStart => exact ⟨0, by omega, rfl, X1.out⟩
  case round =>
    clear X1
    obtain ⟨k, hk, rfl, hX⟩ := hrel
    have X := Lib.hid hX
    clear hX
    by_cases hkn : k < n
    · have hki : (k : Int) < (n : Int) := by omega
      have hk0 : (0 : Int) ≤ (k : Int) := by omega
      have hk01 : (0 : Int) ≤ (k : Int) ∧ (k : Int) < (n : Int) := ⟨hk0, hki⟩
      have hkw : IntKind.i64.wrap ((k : Int) + 1) = (k : Int) + 1 := wrap_in (by omega) (by omega)
      obtain ⟨⟨⟨o, lo, hi⟩, hA, hq, hc⟩, hx⟩ : ∃ x, l[k]? = some x := ⟨_, List.getElem?_eq_getElem (by rw [← hln.out]; exact hkn)⟩
      have hwin := HH.out.win k ⟨o, lo, hi⟩ (by simp [hx])
      simp only at hwin
      obtain ⟨eb, eo, hEA, heb, e0, e1, e2, e3⟩ := (HE.out.keep X.out.k).ev hx
      subst hEA
      simp only [hdV] at e0 e1 e2 e3
      have kA : Keeps wr (wr.alloc (.cells #[.int .i64 o, .int .i64 lo, .int .i64 hi, .slice hA hq hc] 80)) := (Keeps.refl wr).alloc _
      have X3 := Lib.hid (X.out.keep kA)
      have E3 := Lib.hid (Blk.new wr 80 #[.int .i64 o, .int .i64 lo, .int .i64 hi, .slice hA hq hc])
      obtain ⟨x, hxt⟩ : ∃ x, at0 ts k = x := ⟨_, rfl⟩
      rw [hxt] at hwin
      obtain ⟨⟨w1', w2'⟩, w3', w4'⟩ := hwin
      have HX := Lib.hid hxt
      clear hx kA hxt
      go_upto_region 6 with fail
      clear e0 e1 e2 e3
      generalize wr.alloc (.cells #[.int .i64 o, .int .i64 lo, .int .i64 hi, .slice hA hq hc] 80) = W3 at *
      obtain ⟨tb, tf, hTA, htb, u0⟩ := (HT.out.keep X3.out.k).int (get_at0 (l := ts) (i := k) (by have := htn.out; omega))
      subst hTA
      rw [HX.out] at u0
      have x3 : W3.cell? ⟨w.heap.size + 1 + 1, 0, none⟩ = some (.slice (some ⟨tb, tf, none⟩) n tc) := X3.out.b3.cell 0
      have f1 : W3.cell? ⟨_, 1, none⟩ = some (.int .i64 lo) := E3.out.cell 1
      have f2 : W3.cell? ⟨_, 2, none⟩ = some (.int .i64 hi) := E3.out.cell 2
      have t4 : decide (x < if lo < 0 then 0 else lo) = false := by simp; omega
      have t4' : decide (x < max lo 0) = false := by simp; omega
      have t5 : decide ((if 1000000 < hi then 1000000 else hi) < x) = false := by simp; omega
      have t5' : decide (min hi 1000000 < x) = false := by simp; omega
      go_quiet (fail)
      have X4 := Lib.hid (X3.out.keep ((Keeps.refl W3).drewN nq))
      clear x3 f1 f2 u0
      go_wp2_with fail
      go_roundw
      case rel => first | exact ⟨k + 1, by omega, by go_num, X4.out⟩ | ((repeat apply Exists.intro); refine ⟨?_, ?_⟩; rotate_left; rfl; exact ⟨k + 1, by omega, by go_num, X4.out⟩)
      case measure => simp [intOf]; omega
    · have hke : k = n := by omega
      subst hke
      have x2 : wr.cell? ⟨w.heap.size + 1, 0, none⟩ = some (.slice eA k ec) := X.out.b2.cell 0
      clear hkn
      go_wp2_with fail
      clear x2
      go_loopw [12, 60] (fun _ c wq => CntX k (.slice dA N dc) (.slice eA k ec) (.slice tA k tc) w.heap.size w c wq) (fun _ c _ => k - (intOf c).toNat)
      case atStart => exact ⟨0, by omega, rfl, X.out⟩
      case round =>
        clear X
        obtain ⟨j, hj, rfl, hX⟩ := hrel
        have X := Lib.hid hX
        clear hX
        by_cases hjn : j < k
        · have hji : (j : Int) < (k : Int) := by omega
          have hj0 : (0 : Int) ≤ (j : Int) := by omega
          have hjw : IntKind.i64.wrap ((j : Int) + 1) = (j : Int) + 1 := wrap_in (by omega) (by omega)
          obtain ⟨y, hy⟩ : ∃ y, l[j]? = some y := ⟨_, List.getElem?_eq_getElem (by rw [← hln.out]; exact hjn)⟩
          have HY := Lib.hid hy
          have HOY := Lib.hid (HO.out y (List.mem_of_getElem? hy))
          have TJ := Lib.hid (HTB.out j hjn)
          clear hy
          go_wp2_with fail
          go_loopw [13, 64] (fun _ c wq => CntX j (.slice dA N dc) (.slice eA k ec) (.slice tA k tc) w.heap.size w c wq) (fun _ c _ => j - (intOf c).toNat)
          case atStart => exact ⟨0, by omega, rfl, X.out⟩
          case round =>
            clear X
            obtain ⟨i, hi, rfl, hX⟩ := hrel
            have X := Lib.hid hX
            clear hX
            by_cases hin : i < j
            · have hii : (i : Int) < (j : Int) := by omega
              have hi0 : (0 : Int) ≤ (i : Int) := by omega
              have hiw : IntKind.i64.wrap ((i : Int) + 1) = (i : Int) + 1 := wrap_in (by omega) (by omega)
              obtain ⟨x, hx⟩ : ∃ x, l[i]? = some x := ⟨_, List.getElem?_eq_getElem (by rw [← hln.out]; omega)⟩
              have HX := Lib.hid hx
              have HOX := Lib.hid (HO.out x (List.mem_of_getElem? hx))
              have TI := Lib.hid (HTB.out i (by omega))
              have hfar := HH.out.far i j hin (by simp; have := hln.out; omega)
              unfold FarI at hfar
              rw [offA_of (show (l.map (·.1))[i]? = some x.1 by simp [hx]), offA_of (show (l.map (·.1))[j]? = some y.1 by simp [HY.out])] at hfar
              clear hx
              by_cases h1 : Far d x.1.o (at0 ts i) y.1.o (at0 ts j)
              · have HR1 := Lib.hid (show decide (Far d x.1.o (at0 ts i) y.1.o (at0 ts j)) = true by simpa using h1)
                clear hfar h1
                go_wp2_with (go_at_call 43; (with_reducible refine (before_any d l ts dA eA tA dc _ ec tc _ _ _ _ (HD.out.keep X.out.k) hd (HE.out.keep X.out.k) (HT.out.keep X.out.k) hln htn hn (by rw [hN.out]; exact X.out.b1) X.out.b2 X.out.b3 x y i j HX.out HY.out HOX.out HOY.out TI.out TJ.out true HR1).mono ?_); rintro e w4 ⟨rfl, hk_w4⟩; have X_w4 := Lib.hid (X.out.keep hk_w4); clear hk_w4)
                go_roundw
                case rel => first | exact ⟨i + 1, by omega, by go_num, X_w4.out⟩ | ((repeat apply Exists.intro); refine ⟨?_, ?_⟩; rotate_left; rfl; exact ⟨i + 1, by omega, by go_num, X_w4.out⟩)
                case measure => simp [intOf]; omega
              · have HR1 := Lib.hid (show decide (Far d x.1.o (at0 ts i) y.1.o (at0 ts j)) = false by simpa using h1)
                have HR2 := Lib.hid (show decide (Far d y.1.o (at0 ts j) x.1.o (at0 ts i)) = true by simpa using hfar.resolve_left h1)
                clear hfar h1
                go_wp2_with (first | (go_at_call 43; (with_reducible refine (before_any d l ts dA eA tA dc _ ec tc _ _ _ _ (HD.out.keep X.out.k) hd (HE.out.keep X.out.k) (HT.out.keep X.out.k) hln htn hn (by rw [hN.out]; exact X.out.b1) X.out.b2 X.out.b3 x y i j HX.out HY.out HOX.out HOY.out TI.out TJ.out false HR1).mono ?_); rintro e w4 ⟨rfl, hk_w4⟩; have X_w4 := Lib.hid (X.out.keep hk_w4); clear hk_w4) | (go_at_call 43; (with_reducible refine (before_any d l ts dA eA tA dc _ ec tc _ _ _ _ (HD.out.keep X_w4.out.k) hd (HE.out.keep X_w4.out.k) (HT.out.keep X_w4.out.k) hln htn hn (by rw [hN.out]; exact X_w4.out.b1) X_w4.out.b2 X_w4.out.b3 y x j i HY.out HX.out HOY.out HOX.out TJ.out TI.out true HR2).mono ?_); rintro e w5 ⟨rfl, hk_w5⟩; have X_w5 := Lib.hid (X_w4.out.keep hk_w5); clear hk_w5))
                go_roundw
                case rel => first | exact ⟨i + 1, by omega, by go_num, X_w5.out⟩ | ((repeat apply Exists.intro); refine ⟨?_, ?_⟩; rotate_left; rfl; exact ⟨i + 1, by omega, by go_num, X_w5.out⟩)
                case measure => simp [intOf]; omega
            · go_wp2_with fail
              go_roundw
              case rel => first | exact ⟨j + 1, by omega, by go_num, X.out⟩ | ((repeat apply Exists.intro); refine ⟨?_, ?_⟩; rotate_left; rfl; exact ⟨j + 1, by omega, by go_num, X.out⟩)
              case measure => simp [intOf]; omega
        · go_wp2_with fail
          go_loopw [83] (fun c wq => c = .int .i64 0 ∧ Keeps w wq) (fun _ _ => 0)
          case atStart => exact ⟨rfl, X.out.k⟩
          case round =>
            obtain ⟨rfl, hK⟩ := hrel
            go_wp2_with fail
            go_ret
            exact bool_post rfl hK
end Go.Proofs.Ythkmpegpmpdhaaa
