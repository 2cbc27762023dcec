/- Part of the proofs of TopMoney and TopOrders. Conditions: as stated in each theorem. -/
import Derived.Test.YthkmpegpmpdhaaaSq
import Derived.Test.YthkmpegpmpdhaaaDfF
import Derived.Deep.CutRange
import Derived.StillTailTactics
import Derived.Lib.SliceRun
import Derived.RangeFuncRecord
import Derived.Carry
import Derived.ChangeKeysEq
import Derived.Shelf.SlSortCmp.Insertion1
import Derived.Shelf.Lay
import Derived.Ground.SlsfProg
import Derived.Sort.LotA
import Derived.Test.YthkmpegpmpdhaaaRows
import Derived.WalkKit
import Derived.WalkSpells
import Derived.WalkLawsBesides
import Derived.Laws.EntriesVeiled
import Derived.ProofKit
import Derived.OpenShut
import Derived.Lib.Hide
import Derived.BigQuiet
import Derived.Deep.QuietTactic
import Derived.Below
import Derived.Laws.OwnMore
import Derived.Deep.AppendLies
import Derived.Deep.Draws
import Derived.Laws.Rows
import Derived.Maps.AppendAt
import Derived.RegionTactic
import Derived.OwnWalk
import Derived.Deep.RegionHeld3
namespace Go.Proofs.Ythkmpegpmpdhaaa
open Go.Shelf Go.Sort Go.ChangeShapes Go.WideShapes Go.ChangeAt Go.RowKit
set_option linter.unusedSimpArgs false
set_option linter.unusedVariables false
abbrev bdR : RowTy Df.Bd := { T := 103, S := 54, k := 3, by' := 24, enc := fun b => [.int .i64 b.f, .int .i64 b.t, .int .i64 b.m] }
theorem bdOk : RowOk Try.prog bdR := ⟨fun _ => rfl, fun x u hu => by simp at hu; rcases hu with rfl | rfl | rfl <;> rfl, Try.underlying54, info_of (z := .agg #[.int .i64 0, .int .i64 0, .int .i64 0]) (by kernel_rfl) rfl, by decide, by decide⟩
def bd1 (i : Nat) (e : Ev) : Df.Bd := ⟨0, (i : Int) + 1, min e.hi 1000000⟩
def bd2 (i : Nat) (e : Ev) : Df.Bd := ⟨(i : Int) + 1, 0, -(max e.lo 0)⟩
def evB (es : List Ev) (k : Nat) : List Df.Bd := (List.range k).flatMap fun i => [bd1 i (es.getD i ⟨0, 0, 0⟩), bd2 i (es.getD i ⟨0, 0, 0⟩)]
def sqb (d : List (List Int)) (es : List Ev) (a b : Nat) : Df.Bd := ⟨(b : Int) + 1, (a : Int) + 1, -(dist d (offA es a) (offA es b))⟩
def sqB (d : List (List Int)) (es : List Ev) (out : List Nat) (k : Nat) : List Df.Bd := (List.range k).map fun i => sqb d es (out.getD i 0) (out.getD (i + 1) 0)
theorem evB_next {es : List Ev} {k : Nat} {e : Ev} (h : es[k]? = some e) : evB es (k + 1) = evB es k ++ [bd1 k e, bd2 k e] := by
  simp [evB, List.range_succ, List.getD_eq_getElem?_getD, h]
theorem sqB_next {d : List (List Int)} {es : List Ev} {out : List Nat} {k a b : Nat} (ha : out[k]? = some a) (hb : out[k + 1]? = some b) : sqB d es out (k + 1) = sqB d es out k ++ [sqb d es a b] := by
  simp [sqB, List.range_succ, List.getD_eq_getElem?_getD, ha, hb]
theorem evB_len (es : List Ev) (k : Nat) : (evB es k).length = 2 * k := by
  induction k with
  | zero => rfl
  | succ k ih => rw [show evB es (k + 1) = evB es k ++ [bd1 k (es.getD k ⟨0, 0, 0⟩), bd2 k (es.getD k ⟨0, 0, 0⟩)] by simp [evB, List.range_succ]]; simp [ih]; omega
theorem sqB_len (d : List (List Int)) (es : List Ev) (out : List Nat) (k : Nat) : (sqB d es out k).length = k := by simp [sqB]
/-- The bounds of a sequence. -/
def bdsL (d : List (List Int)) (es : List Ev) (out : List Nat) : List Df.Bd := evB es es.length ++ sqB d es out (es.length - 1)
def BdsPost (l : List Df.Bd) (w : World) (e : Ending) (w' : World) : Prop := ∃ A n c, e = .returned (.slice A n c) ∧ Hid (n = l.length) ∧ RecIn bdR w' w'.heap.size A l ∧ Keeps w w'
def Bd1 (es : List Ev) (w wr : World) (v : Value) (i : Nat) : Prop := OwnR bdR w wr v (evB es i)
def Bd2 (d : List (List Int)) (es : List Ev) (out : List Nat) (w wr : World) (v : Value) (i : Nat) : Prop := OwnR bdR w wr v (evB es es.length ++ sqB d es out (i - 1))
set_option maxRecDepth 100000 in
set_option maxHeartbeats 8000000 in
theorem bounds_any (d : List (List Int)) (l : List EvC) (out : List Nat) (ts : List Int) (dA eA oA : Option Addr) (N dc n ec oc : Nat) (w : World) (h : NumRows w w.heap.size dA d) (hd : DistOk d) (hN : Hid (d.length = N)) (he : RecIn evR w w.heap.size eA l) (hln : Hid (n = l.length)) (hn : n ≤ 15)
    (ho : ∀ e ∈ l, isOff d e.1.o) (hs : RecIn natR w w.heap.size oA out) (hsn : Hid (n = out.length)) (hlt : ∀ i ∈ out, i < n) (hh : HoldsP d (l.map (·.1)) ts) :
    Calls Try.prog 18 #[.slice dA N dc, .slice eA n ec, .slice oA n oc] w (BdsPost (bdsL d (l.map (·.1)) out) w) := by
  have HD := Lib.hid h
  have HE := Lib.hid he
  have HS := Lib.hid hs
  have HO := Lib.hid ho
  have HLT := Lib.hid hlt
  have HW := Lib.hid hh.win
  have HEL := Lib.hid (show (l.map (·.1)).length = n by simp; exact hln.out.symm)
  have HES := Lib.hid (show ∀ (i : Nat) (x : EvC), l[i]? = some x → (l.map (·.1))[i]? = some x.1 from fun i x hx => by simp [hx])
  generalize l.map (·.1) = es at *
  clear h he ho hs hlt hh
  go_enter Try.func18, Try.ntmps18
  go_wp2_with fail
  have N1 := Lib.hid (OwnR.nil (R := bdR) w)
  go_loopw [7, 8] (fun v c wr => ∃ (i : Nat) (A : Option Addr) (m cc : Nat), i ≤ n ∧ c = .int .i64 (i : Int) ∧ v = .slice A m cc ∧ Bd1 es w wr v i) (fun _ c _ => n - (intOf c).toNat)
  case atStart => exact ⟨0, none, 0, 0, by omega, rfl, rfl, N1.out⟩
  case round =>
    clear N1
    obtain ⟨i, A, m, cc, hi, rfl, rfl, hO⟩ := hrel
    have OO := Lib.hid (show OwnR bdR w wr (.slice A m cc) (evB es i) from hO)
    have LEN := Lib.hid (evB_len es i)
    have hK : Keeps w wr := hO.2
    clear hO
    by_cases hin : i < n
    · have hii : (i : Int) < (n : Int) := by omega
      have hi0 : (0 : Int) ≤ (i : Int) := by omega
      have hi01 : (0 : Int) ≤ (i : Int) ∧ (i : Int) < (n : Int) := ⟨hi0, hii⟩
      have hiw : IntKind.i64.wrap ((i : Int) + 1) = (i : Int) + 1 := wrap_in (by omega) (by omega)
      obtain ⟨x, hx⟩ : ∃ x, l[i]? = some x := ⟨_, List.getElem?_eq_getElem (by rw [← hln.out]; exact hin)⟩
      have HX := Lib.hid hx
      have hw := HW.out i x.1 (HES.out i x hx)
      have NX := Lib.hid (evB_next (HES.out i x hx))
      obtain ⟨eb, eo, hEA, heb, -, e_l, e_h, -⟩ := (HE.out.keep hK).ev hx
      subst hEA
      obtain ⟨lo, hlo⟩ : ∃ q, x.1.lo = q := ⟨_, rfl⟩
      obtain ⟨hi', hhi⟩ : ∃ q, x.1.hi = q := ⟨_, rfl⟩
      have NB := Lib.hid (show evB es (i + 1) = evB es i ++ [⟨0, (i : Int) + 1, min hi' 1000000⟩, ⟨(i : Int) + 1, 0, -(max lo 0)⟩] by rw [NX.out]; simp only [bd1, bd2, hlo, hhi])
      rw [hlo] at e_l hw
      rw [hhi] at e_h hw
      have hnw : IntKind.i64.wrap (-(max lo 0)) = -(max lo 0) := wrap_in (by omega) (by omega)
      clear NX hx
      rw [← hnw] at NB
      clear hnw
      have H2 := Lib.hid (OO.out.keep ((Keeps.refl wr).alloc (.cells #[.int .i64 0, .int .i64 ((i : Int) + 1), .int .i64 (min hi' 1000000), .int .i64 ((i : Int) + 1), .int .i64 0, .int .i64 (IntKind.i64.wrap (-max lo 0))] 103)))
      have H3 := Lib.hid (OO.out.keep (((Keeps.refl wr).alloc (.cells #[.int .i64 0, .int .i64 ((i : Int) + 1), .int .i64 (min hi' 1000000), .int .i64 ((i : Int) + 1), .int .i64 0, .int .i64 (IntKind.i64.wrap (-max lo 0))] 103)).drew))
      have X2 := Lib.hid (RecIn.lit bdOk wr [⟨0, (i : Int) + 1, min hi' 1000000⟩, ⟨(i : Int) + 1, 0, IntKind.i64.wrap (-max lo 0)⟩] #[.int .i64 0, .int .i64 ((i : Int) + 1), .int .i64 (min hi' 1000000), .int .i64 ((i : Int) + 1), .int .i64 0, .int .i64 (IntKind.i64.wrap (-max lo 0))] rfl)
      have X3 := Lib.hid (X2.out.keep (Keeps.refl _).drew)
      have TWO := Lib.hid (show 2 = [(⟨0, (i : Int) + 1, min hi' 1000000⟩ : Df.Bd), ⟨(i : Int) + 1, 0, IntKind.i64.wrap (-max lo 0)⟩].length from rfl)
      have L1 := Lib.hid (show (evB es i).length + [(⟨0, (i : Int) + 1, min hi' 1000000⟩ : Df.Bd), ⟨(i : Int) + 1, 0, IntKind.i64.wrap (-max lo 0)⟩].length ≤ 1000000 by rw [LEN.out]; simp; omega)
      generalize hY : evB es i = Y at *
      have SOF := Lib.hid (show ∀ X, Keeps w X → (fun w' => w'.cell? ⟨eb, eo + i * 4 + 1, none⟩ = some (.int .i64 lo) ∧ w'.cell? ⟨eb, eo + i * 4 + 2, none⟩ = some (.int .i64 hi') ∧ Keeps w w') X from fun X hX => by
        obtain ⟨eb', eo', e, -, -, c1, c2, -⟩ := (HE.out.keep hX).ev HX.out
        cases e
        rw [hlo] at c1
        rw [hhi] at c2
        exact ⟨c1, c2, hX⟩)
      have HKW := Lib.hid hK
      clear hK hlo hhi hY hw LEN OO
      go_wp2_with fail
      go_region_held3 (fun w' => w'.cell? ⟨eb, eo + i * 4 + 1, none⟩ = some (.int .i64 lo) ∧ w'.cell? ⟨eb, eo + i * 4 + 2, none⟩ = some (.int .i64 hi') ∧ Keeps w w') ((refine SOF.out _ ?_; (repeat (first | exact HKW.out | assumption | apply Keeps.drew | apply Keeps.alloc)); done)) (first | (refine step_appR bdOk (by rfl) (.tmp 18) (.tmp 38) (by rfl) _ _ (by rfl) H2.out _ _ _ [⟨0, (i : Int) + 1, min hi' 1000000⟩, ⟨(i : Int) + 1, 0, IntKind.i64.wrap (-max lo 0)⟩] (by rfl) X2.out TWO L1 ?_; intro A17 n17 c17 w17 ho17 hg17; have hkA : Keeps w w17 := ho17.2) | (refine step_appR bdOk (by rfl) (.tmp 18) (.tmp 38) (by rfl) _ _ (by rfl) H3.out _ _ _ [⟨0, (i : Int) + 1, min hi' 1000000⟩, ⟨(i : Int) + 1, 0, IntKind.i64.wrap (-max lo 0)⟩] (by rfl) X3.out TWO L1 ?_; intro A17 n17 c17 w17 ho17 hg17; have hkA : Keeps w w17 := ho17.2))
      all_goals (
        rw [← NB.out] at ho17
        have O17 := Lib.hid ho17
        clear ho17 hg17 hkA H2 H3 X2 X3 e_l e_h
        go_wp2_with fail
        go_roundw
        case rel => first | exact ⟨i + 1, A17, n17, c17, by omega, by go_num, rfl, O17.out⟩ | ((repeat apply Exists.intro); refine ⟨?_, ?_⟩; rotate_left; (first | exact rfl | trivial | exact ⟨rfl, rfl⟩ | exact ⟨rfl, rfl, rfl⟩); exact ⟨i + 1, A17, n17, c17, by omega, by go_num, rfl, O17.out⟩)
        case measure => simp [intOf]; omega)
    · have hie : n = i := by omega
      subst hie
      clear hK LEN
      go_wp2_with fail
      have O0 := Lib.hid (show OwnR bdR w wr (.slice A m cc) (evB es n ++ sqB d es out 0) from by simpa [sqB] using OO.out)
      clear OO
      go_loopw [7, 9, 10, 11] (fun v c _ _ wr => ∃ (j : Nat) (A : Option Addr) (m cc : Nat), (j + 1 ≤ n ∨ j = 0) ∧ c = .int .i64 ((j : Int) + 1) ∧ v = .slice A m cc ∧ OwnR bdR w wr (.slice A m cc) (evB es n ++ sqB d es out j)) (fun _ c _ _ _ => n - (intOf c).toNat)
      case atStart => exact ⟨0, A, m, cc, .inr rfl, rfl, rfl, O0.out⟩
      case round =>
        clear O0
        obtain ⟨j, A2, m2, cc2, hj, rfl, rfl, hO⟩ := hrel
        have OO := Lib.hid hO
        have LEN := Lib.hid (show (evB es n ++ sqB d es out j).length = 2 * n + j by simp [evB_len, sqB_len])
        have hK : Keeps w wr := hO.2
        clear hO
        by_cases hjn : j + 1 < n
        · have hji : (j : Int) + 1 < (n : Int) := by omega
          have hji2 : (j : Int) < (n : Int) := by omega
          have hj0 : (0 : Int) ≤ (j : Int) := by omega
          have hj1 : (0 : Int) ≤ (j : Int) + 1 := by omega
          have hjw : IntKind.i64.wrap ((j : Int) + 1 + 1) = (j : Int) + 1 + 1 := wrap_in (by omega) (by omega)
          have hjw0 : IntKind.i64.wrap (j : Int) = (j : Int) := wrap_in (by omega) (by omega)
          have hjw1 : IntKind.i64.wrap ((j : Int) + 1 - 1) = (j : Int) := by rw [Int.add_sub_cancel]; exact hjw0
          have htn : ((j : Int) + 1).toNat = j + 1 := by omega
          obtain ⟨a, ha⟩ : ∃ a, out[j]? = some a := ⟨_, List.getElem?_eq_getElem (by rw [← hsn.out]; omega)⟩
          obtain ⟨b, hb⟩ : ∃ b, out[j + 1]? = some b := ⟨_, List.getElem?_eq_getElem (by rw [← hsn.out]; omega)⟩
          have NX := Lib.hid (sqB_next (d := d) (es := es) ha hb)
          have han := HLT.out a (List.mem_of_getElem? ha)
          have hbn := HLT.out b (List.mem_of_getElem? hb)
          obtain ⟨sb, sf, hOA, hsb, s_a⟩ := (HS.out.keep hK).nat ha
          subst hOA
          obtain ⟨sb', sf', e, -, s_b⟩ := (HS.out.keep hK).nat hb
          cases e
          obtain ⟨x, hx⟩ : ∃ x, l[a]? = some x := ⟨_, List.getElem?_eq_getElem (by rw [← hln.out]; exact han)⟩
          obtain ⟨y, hy⟩ : ∃ y, l[b]? = some y := ⟨_, List.getElem?_eq_getElem (by rw [← hln.out]; exact hbn)⟩
          have HOX := Lib.hid (HO.out x (List.mem_of_getElem? hx))
          have HOY := Lib.hid (HO.out y (List.mem_of_getElem? hy))
          have hox := offA_of (HES.out a x hx)
          have hoy := offA_of (HES.out b y hy)
          have HX := Lib.hid hx
          have HY := Lib.hid hy
          obtain ⟨eb, eo, hEA, heb, e_x, -, -, -⟩ := (HE.out.keep hK).ev hx
          subst hEA
          obtain ⟨eb', eo', e, -, e_y, -, -, -⟩ := (HE.out.keep hK).ev hy
          cases e
          obtain ⟨db, df, A', c', b2, f2, hDA, hdb, dr, hA', hb2, dc⟩ := rows_at HD.out hd HOX.out HOY.out
          subst hDA hA'
          have i3 : (0 : Int) ≤ x.1.o ∧ x.1.o < (N : Int) := by have := HOX.out; rw [← hN.out]; exact this
          have i4 : (0 : Int) ≤ y.1.o ∧ y.1.o < (N : Int) := by have := HOY.out; rw [← hN.out]; exact this
          have hbd := hd.bnd x.1.o y.1.o HOX.out HOY.out
          have DRC := Lib.hid (show ∀ X, Keeps w X → X.cell? ⟨db, df + x.1.o.toNat, none⟩ = w.cell? ⟨db, df + x.1.o.toNat, none⟩ ∧ X.cell? ⟨b2, f2 + y.1.o.toNat, none⟩ = w.cell? ⟨b2, f2 + y.1.o.toNat, none⟩ from fun X hX => ⟨hX.cell (p := ⟨db, _, none⟩) hdb, hX.cell (p := ⟨b2, _, none⟩) hb2⟩)
          have hnw : IntKind.i64.wrap (-(dist d x.1.o y.1.o)) = -(dist d x.1.o y.1.o) := wrap_in (by omega) (by omega)
          have NB := Lib.hid (show evB es n ++ sqB d es out (j + 1) = (evB es n ++ sqB d es out j) ++ [⟨(b : Int) + 1, (a : Int) + 1, IntKind.i64.wrap (-(dist d x.1.o y.1.o))⟩] by rw [NX.out, hnw, List.append_assoc]; simp only [sqb, hox, hoy])
          have ha01 : (0 : Int) ≤ (a : Int) ∧ (a : Int) < (n : Int) := by omega
          have hb01 : (0 : Int) ≤ (b : Int) ∧ (b : Int) < (n : Int) := by omega
          have haw : IntKind.i64.wrap ((a : Int) + 1) = (a : Int) + 1 := wrap_in (by omega) (by omega)
          have hbw : IntKind.i64.wrap ((b : Int) + 1) = (b : Int) + 1 := wrap_in (by omega) (by omega)
          rw [hN.out] at dr
          clear NX hbd hnw hx hy hox hoy ha hb
          obtain ⟨xo, hxo⟩ : ∃ q, x.1.o = q := ⟨_, rfl⟩
          obtain ⟨yo, hyo⟩ : ∃ q, y.1.o = q := ⟨_, rfl⟩
          rw [hxo] at e_x i3 dr dc DRC
          rw [hyo] at e_y i4 dc DRC
          rw [hxo, hyo] at NB
          obtain ⟨dv, hdv⟩ : ∃ q, dist d xo yo = q := ⟨_, rfl⟩
          rw [hdv] at dc NB
          have H2 := Lib.hid (OO.out.keep ((Keeps.refl wr).alloc (.cells #[.int .i64 ((b : Int) + 1), .int .i64 ((a : Int) + 1), .int .i64 (IntKind.i64.wrap (-dv))] 103)))
          have H3 := Lib.hid (OO.out.keep (((Keeps.refl wr).alloc (.cells #[.int .i64 ((b : Int) + 1), .int .i64 ((a : Int) + 1), .int .i64 (IntKind.i64.wrap (-dv))] 103)).drew))
          have X2 := Lib.hid (RecIn.lit bdOk wr [(⟨(b : Int) + 1, (a : Int) + 1, IntKind.i64.wrap (-dv)⟩ : Df.Bd)] #[.int .i64 ((b : Int) + 1), .int .i64 ((a : Int) + 1), .int .i64 (IntKind.i64.wrap (-dv))] rfl)
          have X3 := Lib.hid (X2.out.keep (Keeps.refl _).drew)
          have ONE := Lib.hid (show 1 = [(⟨(b : Int) + 1, (a : Int) + 1, IntKind.i64.wrap (-dv)⟩ : Df.Bd)].length from rfl)
          have L1 := Lib.hid (show (evB es n ++ sqB d es out j).length + [(⟨(b : Int) + 1, (a : Int) + 1, IntKind.i64.wrap (-dv)⟩ : Df.Bd)].length ≤ 1000000 by rw [LEN.out]; simp; omega)
          generalize hY : evB es n ++ sqB d es out j = Y at *
          have SOF := Lib.hid (show ∀ X, Keeps w X → (fun w' => w'.cell? ⟨eb, eo + a * 4, none⟩ = some (.int .i64 xo) ∧ w'.cell? ⟨db, df + xo.toNat, none⟩ = some (.slice (some ⟨b2, f2, none⟩) N (N + c')) ∧ w'.cell? ⟨eb, eo + b * 4, none⟩ = some (.int .i64 yo) ∧ w'.cell? ⟨b2, f2 + yo.toNat, none⟩ = some (.int .i64 dv) ∧ Keeps w w') X from fun X hX => by
            obtain ⟨eb', eo', e, -, c1, -, -, -⟩ := (HE.out.keep hX).ev HX.out
            cases e
            obtain ⟨eb', eo', e, -, c2, -, -, -⟩ := (HE.out.keep hX).ev HY.out
            cases e
            rw [hxo] at c1
            rw [hyo] at c2
            obtain ⟨d1, d2⟩ := DRC.out X hX
            rw [dr] at d1
            rw [dc] at d2
            exact ⟨c1, d1, c2, d2, hX⟩)
          have HKW := Lib.hid hK
          have dr' := (DRC.out wr hK).1.trans dr
          have dc' := (DRC.out wr hK).2.trans dc
          clear hK hY LEN OO hxo hyo hdv dr dc
          go_wp2_with fail
          go_region_held3 (fun w' => w'.cell? ⟨eb, eo + a * 4, none⟩ = some (.int .i64 xo) ∧ w'.cell? ⟨db, df + xo.toNat, none⟩ = some (.slice (some ⟨b2, f2, none⟩) N (N + c')) ∧ w'.cell? ⟨eb, eo + b * 4, none⟩ = some (.int .i64 yo) ∧ w'.cell? ⟨b2, f2 + yo.toNat, none⟩ = some (.int .i64 dv) ∧ Keeps w w') ((refine SOF.out _ ?_; (repeat (first | exact HKW.out | assumption | apply Keeps.drew | apply Keeps.alloc)); done)) (first | (refine step_appR bdOk (by rfl) (.tmp 55) (.tmp 77) (by rfl) _ _ (by rfl) H2.out _ _ _ [(⟨(b : Int) + 1, (a : Int) + 1, IntKind.i64.wrap (-dv)⟩ : Df.Bd)] (by rfl) X2.out ONE L1 ?_; intro A17 n17 c17 w17 ho17 hg17; have hkA : Keeps w w17 := ho17.2) | (refine step_appR bdOk (by rfl) (.tmp 55) (.tmp 77) (by rfl) _ _ (by rfl) H3.out _ _ _ [(⟨(b : Int) + 1, (a : Int) + 1, IntKind.i64.wrap (-dv)⟩ : Df.Bd)] (by rfl) X3.out ONE L1 ?_; intro A17 n17 c17 w17 ho17 hg17; have hkA : Keeps w w17 := ho17.2))
          all_goals (
            rw [← NB.out] at ho17
            have O17 := Lib.hid ho17
            clear ho17 hg17 hkA H2 H3 X2 X3 e_x e_y dr' dc'
            go_wp2_with fail
            go_roundw
            case rel => first | exact ⟨j + 1, A17, n17, c17, .inl (by omega), by go_num, rfl, O17.out⟩ | ((repeat apply Exists.intro); refine ⟨?_, ?_⟩; rotate_left; (first | exact rfl | trivial | exact ⟨rfl, rfl⟩ | exact ⟨rfl, rfl, rfl⟩); exact ⟨j + 1, A17, n17, c17, .inl (by omega), by go_num, rfl, O17.out⟩)
            case measure => simp [intOf]; omega)
        · have hno : ¬ ((j : Int) + 1 < (n : Int)) := by omega
          have FN := Lib.hid (show OwnR bdR w wr (.slice A2 m2 cc2) (bdsL d es out) from by
            have e1 : es.length = n := HEL.out
            have e2 : n - 1 = j := by omega
            unfold bdsL; rw [e1, e2]; exact OO.out)
          clear OO hK LEN
          go_wp2_with fail
          go_ret
          obtain ⟨h1, h2⟩ := FN.out.recs bdOk
          exact ⟨_, _, _, rfl, Lib.hid h2, h1, FN.out.2⟩
end Go.Proofs.Ythkmpegpmpdhaaa
