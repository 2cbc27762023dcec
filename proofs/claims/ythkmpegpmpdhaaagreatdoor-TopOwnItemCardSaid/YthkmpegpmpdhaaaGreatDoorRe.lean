/- Part of the proof of TopOwnItem. Conditions: as stated in each theorem. -/
import Derived.Test.YthkmpegpmpdhaaaGreatDoorRc
import Derived.WalkMore
import Derived.Maps.OwnIn
import Derived.Deep.LoopGhost
import Derived.RangeFuncNested
import Derived.RangeFuncCalls
import Derived.RangeFuncLeaves
import Derived.RangeFuncWrites
import Derived.Shelf.Abstract
import Derived.Shelf.RegionOpen
import Derived.OwnWalkIn
import Derived.TacticsInMore
import Derived.LoopNIn
import Derived.LoopIn
import Derived.RangeFuncBound
import Derived.Deep.CutRange
import Derived.BigQuiet
import Derived.Test.YthkmpegpmpdhaaaGreatDoorProg
import Derived.WalkKit
import Derived.WalkSpells
import Derived.WalkLawsBesides
import Derived.Laws.EntriesVeiled
import Derived.ProofKit
import Derived.OpenShut
import Derived.Lib.Hide
import Derived.BigQuiet
import Derived.Deep.QuietTactic
import Derived.Deep.CutRange
import Derived.StillTailTactics
import Derived.Lib.SliceRun
import Derived.RangeFuncRecord
import Derived.Carry
import Derived.ChangeKeysEq
import Derived.Below
import Derived.Laws.OwnMore
import Derived.Deep.AppendLies
import Derived.Deep.Draws
import Derived.Laws.Rows
import Derived.Maps.AppendAt
import Derived.RegionTactic
import Derived.OwnWalk
import Derived.Deep.RegionHeld3
namespace Go.Proofs.YthkmpegpmpdhaaaGreatDoor
open Go.Shelf Go.ChangeShapes Go.WideShapes Go.ChangeAt Go.RowKit
set_option linter.unusedSimpArgs false
set_option linter.unusedVariables false
theorem RecIn.grownR {α : Type} {R : RowTy α} {w w' : World} {A : Option Addr} {l : List α} {row : Option Nat} (h : RecIn R w w.heap.size A l) (hg : w.grownBy w' row) (hne : ∀ b o t, A = some ⟨b, o, t⟩ → some b ≠ row) : RecIn R w' w'.heap.size A l := fun j x hj => by
  obtain ⟨b, off, e, hb, hc⟩ := h j x hj
  exact ⟨b, off, e, Nat.lt_of_lt_of_le hb hg.size, fun t u hu => hg.cell (a := ⟨b, off + j * R.k + t, none⟩) (hc t u hu) (hne _ _ _ e)⟩
/-- A list of events with given contents. -/
def EvtV (S : List EvC) (w0 : World) (v : Value) (w : World) : Prop := ∃ A n c xs, v = .slice A n c ∧ n = xs.length ∧ RecIn evR w w.heap.size A xs ∧ Keeps w0 w ∧ xs.map Ev.say = S ∧ ∀ v ∈ xs, EvOk w w.heap.size v
theorem eventsF_len (l : List Scn) (rs : List Rec) (lab : ByteArray) : (eventsF l rs lab).length ≤ 14 := by
  unfold eventsF
  rw [List.length_take]
  exact Nat.min_le_left _ _
def anyF (xs : List Ev) (s : Si) : Bool := xs.any fun v => v.off == s.off && v.lo == s.lo && v.hi == s.hi
theorem anyF_snoc {xs : List Ev} {s : Si} {j : Nat} {v : Ev} (h : xs[j]? = some v) : anyF (xs.take (j + 1)) s = (anyF (xs.take j) s || (v.off == s.off && v.lo == s.lo && v.hi == s.hi)) := by
  unfold anyF
  rw [take_snoc' h, List.any_append]
  simp
theorem anyF_all {xs : List Ev} {s : Si} (h : ∃ v ∈ xs.map Ev.say, sightOf v = s) : anyF xs s = true := by
  obtain ⟨v, hv, rfl⟩ := h
  obtain ⟨u, hu, rfl⟩ := List.mem_map.1 hv
  unfold anyF
  rw [List.any_eq_true]
  exact ⟨u, hu, by simp [sightOf, Ev.say]⟩
def OwnL (xs : List Ev) (s : Si) (k : Nat) (a : Value) : Prop := a = .bool (anyF (xs.take k) s)
set_option maxHeartbeats 16000000 in
set_option maxRecDepth 100000 in
theorem law_own (l : List Scn) (lA : Option Addr) (n lc : Nat) (rs : List Rec) (rA : Option Addr) (m rc : Nat) (x : Rec) (lab : ByteArray) (secret other : Int) (rows : List Rw) (WA : Option Addr) (p wcap : Nat) (w : World)
    (hl : RecIn scR w w.heap.size lA l) (hn : Hid (n = l.length)) (hoff : OffOk l) (hr : RecIn rcR w w.heap.size rA rs) (hm : Hid (m = rs.length)) (hok : ∀ y ∈ rs, RecOk w w.heap.size y) (hx : RecOk w w.heap.size x)
    (hw : RecIn rwR w w.heap.size WA rows) (hp : Hid (p = rows.length)) (hrk : RowsOk w w.heap.size rows) (hnm : n ≤ 9223372036854775807) (hmm : m ≤ 9223372036854775807) (hpm : p ≤ 9223372036854775807) (hlm : lab.size ≤ 9223372036854775807) (ht : Tab w) :
    Calls Tryz.prog 3 #[.slice lA n lc, .slice rA m rc, recA x, .string lab, .int .i64 secret, .int .i64 other, .slice WA p wcap] w (BoolPost true w) := by
  have HL := Lib.hid hl; have HR := Lib.hid hr; have HOK := Lib.hid hok; have HXK := Lib.hid hx; have HW := Lib.hid hw; have HRK := Lib.hid hrk; have HT := Lib.hid ht; have HOF := Lib.hid hoff
  have hxl : x.lab.size ≤ 9223372036854775807 := hx.lab
  have hxq : x.con.length ≤ 9223372036854775807 := hx.len
  clear hl hr hok hx hw hrk ht hoff
  obtain ⟨sc, nu, ki, ti, xl, con, xA, xc⟩ := x
  change xl.size ≤ _ at hxl
  change con.length ≤ _ at hxq
  change Calls Tryz.prog 3 #[.slice lA n lc, .slice rA m rc, .agg #[.int .i64 sc, .int .i64 nu, .int .i64 ki, .int .i64 ti, .string xl, .slice xA con.length xc], .string lab, .int .i64 secret, .int .i64 other, .slice WA p wcap] w _
  obtain ⟨q, hq⟩ : ∃ q, con.length = q := ⟨_, rfl⟩
  have HQ := Lib.hid hq
  rw [hq] at hxq ⊢
  clear hq
  have K1 := Lib.hid ((Keeps.refl w).alloc (.cells #[.int .i64 sc, .int .i64 nu, .int .i64 ki, .int .i64 ti, .string xl, .slice xA q xc] 26))
  have B1 := Lib.hid (Blk.new w 26 #[.int .i64 sc, .int .i64 nu, .int .i64 ki, .int .i64 ti, .string xl, .slice xA q xc])
  go_enter Tryz.func3, Tryz.ntmps3
  go_upto_region 1 with fail
  generalize hw1 : w.alloc (.cells #[.int .i64 sc, .int .i64 nu, .int .i64 ki, .int .i64 ti, .string xl, .slice xA q xc] 26) = w1 at *
  clear hw1
  have HS5 := Lib.hid (seen5 w1 (HT.out.keep K1.out))
  go_upto_region 2 with (go_at_call 5; (with_reducible refine HS5.out.mono ?_); rintro e w2 ⟨rfl, hk2⟩; have G2 := Lib.hid hk2; clear hk2)
  have K2 := Lib.hid (K1.out.trans G2.out)
  have x0 := cell_keep (cell_of_blk B1.out 0 (v := .int .i64 sc) rfl) G2.out
  have x1 := cell_keep (cell_of_blk B1.out 1 (v := .int .i64 nu) rfl) G2.out
  have x2 := cell_keep (cell_of_blk B1.out 2 (v := .int .i64 ki) rfl) G2.out
  have x3 := cell_keep (cell_of_blk B1.out 3 (v := .int .i64 ti) rfl) G2.out
  have x4 := cell_keep (cell_of_blk B1.out 4 (v := .string xl) rfl) G2.out
  have x5 := cell_keep (cell_of_blk B1.out 5 (v := .slice xA q xc) rfl) G2.out
  have hblt : w.heap.size < w2.heap.size := Nat.lt_of_lt_of_le B1.out.lt G2.out.size
  have L2 := Lib.hid (HL.out.keep K2.out); have R2 := Lib.hid (HR.out.keep K2.out); have W2 := Lib.hid (HW.out.keep K2.out); have T2 := Lib.hid (HT.out.keep K2.out)
  have OK2 := Lib.hid (fun y hy => (HOK.out y hy).keep K2.out)
  have XK2 := Lib.hid (HXK.out.keep K2.out)
  have RK2 := Lib.hid (show RowsOk w2 w2.heap.size rows from fun r hr => (HRK.out r hr).keep K2.out)
  clear HL HR HOK HXK HRK HT HW K1 HS5 G2 B1
  by_cases hF : FewP l rs
  rotate_left
  · have HF := Lib.hid (few26_no l rs lA rA n lc m rc w2 hn R2.out hm (by omega) hF)
    go_wp2_with (first | (go_at_call 6; (with_reducible refine HF.out.mono ?_); rintro e w3 ⟨rfl, rfl⟩))
    go_ret
    exact ⟨rfl, K2.out⟩
  have HF := Lib.hid (few26_yes l rs lA rA n lc m rc w2 hn R2.out hm (by omega) hF)
  by_cases h30 : m < 30
  rotate_left
  · have d30 : (30 : Int) ≤ (m : Int) := by omega
    go_wp2_with (first | (go_at_call 6; (with_reducible refine HF.out.mono ?_); rintro e w3 ⟨rfl, rfl⟩))
    go_ret
    exact ⟨rfl, K2.out⟩
  have d30 : decide ((30 : Int) ≤ (m : Int)) = false := by simp; omega
  have d30' : decide (30 ≤ m) = false := by simp; omega
  by_cases hl40 : lab.size ≤ 40
  rotate_left
  · have e40 : (40 : Int) < (lab.size : Int) := by omega
    go_wp2_with (first | (go_at_call 6; (with_reducible refine HF.out.mono ?_); rintro e w3 ⟨rfl, rfl⟩))
    go_ret
    exact ⟨rfl, K2.out⟩
  have e40 : decide ((40 : Int) < (lab.size : Int)) = false := by simp; omega
  have e40' : decide (40 < lab.size) = false := by simp; omega
  by_cases hx40 : xl.size ≤ 40
  rotate_left
  · have f40 : (40 : Int) < (xl.size : Int) := by omega
    go_wp2_with (first | (go_at_call 6; (with_reducible refine HF.out.mono ?_); rintro e w3 ⟨rfl, rfl⟩))
    go_ret
    exact ⟨rfl, K2.out⟩
  have f40 : decide ((40 : Int) < (xl.size : Int)) = false := by simp; omega
  have f40' : decide (40 < xl.size) = false := by simp; omega
  by_cases hq0 : q = 0
  rotate_left
  · have q0 : (0 : Int) < (q : Int) := by omega
    go_wp2_with (first | (go_at_call 6; (with_reducible refine HF.out.mono ?_); rintro e w3 ⟨rfl, rfl⟩))
    go_ret
    exact ⟨rfl, K2.out⟩
  subst hq0
  by_cases hk1 : ki = 1
  rotate_left
  · have k1 : (ki == 1) = false := by simpa using hk1
    have k1' : decide (ki = 1) = false := by simpa using hk1
    have k1'' : (ki != 1) = true := by simpa using hk1
    go_wp2_with (first | (go_at_call 6; (with_reducible refine HF.out.mono ?_); rintro e w3 ⟨rfl, rfl⟩))
    go_ret
    exact ⟨rfl, K2.out⟩
  subst hk1
  by_cases hne : xl = lab
  · have hl1 : (xl.toList == lab.toList) = true := (ba_tl _ _).2 hne
    go_wp2_with (first | (go_at_call 6; (with_reducible refine HF.out.mono ?_); rintro e w3 ⟨rfl, rfl⟩))
    go_ret
    exact ⟨rfl, K2.out⟩
  have hl1 : (xl.toList == lab.toList) = false := ba_ntl hne
  by_cases hsl : ∀ y ∈ rs, ¬ (y.ki = 2 ∧ y.lab = xl)
  rotate_left
  · have HSL := Lib.hid (sealing7_yes rs xl rA m rc w2 R2.out hm (by omega) hsl)
    go_wp2_with (first | (go_at_call 6; (with_reducible refine HF.out.mono ?_); rintro e w3 ⟨rfl, rfl⟩) | (go_at_call 7; (with_reducible refine HSL.out.mono ?_); rintro e w3 ⟨rfl, rfl⟩))
    go_ret
    exact ⟨rfl, K2.out⟩
  have HSL := Lib.hid (sealing7_no rs xl rA m rc w2 R2.out hm (by omega) hsl)
  have hm30 : m < 1000 := by omega
  have hn1000 : n ≤ 1000 := by have := hF.nl; have := hn.out; omega
  have hcon : con = [] := List.eq_nil_of_length_eq_zero HQ.out
  subst hcon
  obtain ⟨E, hE⟩ : ∃ E, eventsF l rs lab = E := ⟨_, rfl⟩
  have HE := Lib.hid hE
  have HE2 := Lib.hid (show eventsF l (rs ++ [⟨sc, nu, 1, ti, xl, [], xA, xc⟩]) lab = E by rw [← hE]; exact eventsF_more l rs _ rfl hsl hne)
  have HEL := Lib.hid (show E.length ≤ 14 by rw [← hE]; exact eventsF_len l rs lab)
  have HB1 := Lib.hid (EvsBd.of l rs hF)
  have HB2 := Lib.hid (EvsBd.more l rs ⟨sc, nu, 1, ti, xl, [], xA, xc⟩ hF rfl rfl)
  have EV := events8 l rs lA rA n lc m rc lab w2 L2.out hn R2.out hm OK2.out hn1000 HB1.out HOF.out T2.out
  rw [hE] at EV
  have HEV := Lib.hid EV
  clear hE EV hsl hF
  go_upto_region 4 with (first | (go_at_call 6; (with_reducible refine HF.out.mono ?_); rintro e w3 ⟨rfl, rfl⟩) | (go_at_call 7; (with_reducible refine HSL.out.mono ?_); rintro e w3 ⟨rfl, rfl⟩))
  go_upto_region 5 with (go_at_call 8; (with_reducible refine HEV.out.mono ?_); rintro e w4 ⟨A4, n4, c4, xs, rfl, hn4, hr4, hk4, hx4, ho4⟩; have N4 := Lib.hid hn4; have S4 := Lib.hid hr4; have G4 := Lib.hid hk4; have X4 := Lib.hid hx4; have O4 := Lib.hid ho4; clear hn4 hr4 hk4 hx4 ho4)
  have y0 := cell_keep x0 G4.out
  have y1 := cell_keep x1 G4.out
  have y2 := cell_keep x2 G4.out
  have y3 := cell_keep x3 G4.out
  have y4 := cell_keep x4 G4.out
  have y5 := cell_keep x5 G4.out
  have hblt4 : w.heap.size < w4.heap.size := Nat.lt_of_lt_of_le hblt G4.out.size
  clear x0 x1 x2 x3 x4 x5 hblt HF HSL HEV hl1 d30 d30' e40 e40' f40 f40' hxl hxq
  have R4 := Lib.hid (R2.out.keep G4.out)
  have own0 := Lib.hid (OwnR.litN (R := rcR) rcOk.len (Keeps.refl w4) [] #[] rfl (by simp))
  have own1 := OwnR.litN (R := rcR) rcOk.len ((Keeps.refl w4).alloc (.cells #[.int .i64 sc, .int .i64 nu, .int .i64 1, .int .i64 ti, .string xl, .slice xA 0 xc] 26)) [] #[] rfl (by simp)
  rw [World.size_alloc] at own1
  have OWN1 := Lib.hid own1
  clear own1
  have lit2 := RecIn.lit rcOk w4 [⟨sc, nu, 1, ti, xl, [], xA, xc⟩] #[.int .i64 sc, .int .i64 nu, .int .i64 1, .int .i64 ti, .string xl, .slice xA 0 xc] rfl
  have LIT2 := Lib.hid lit2
  have lit1 := RecIn.lit rcOk (w4.alloc (.cells #[] 26)) [⟨sc, nu, 1, ti, xl, [], xA, xc⟩] #[.int .i64 sc, .int .i64 nu, .int .i64 1, .int .i64 ti, .string xl, .slice xA 0 xc] rfl
  have esz : (w4.alloc (.cells #[] 26)).heap.size = w4.heap.size + 1 := World.size_alloc _ _
  rw [esz] at lit1
  clear esz
  have LIT1 := Lib.hid lit1
  clear lit1 lit2
  have LE1 := Lib.hid (show ([] : List Rec).length + rs.length ≤ 1000000 by have := hm.out; simp; omega)
  have LE2 := Lib.hid (show (([] : List Rec) ++ rs).length + [(⟨sc, nu, 1, ti, xl, [], xA, xc⟩ : Rec)].length ≤ 1000000 by have := hm.out; simp; omega)
  have ONE := Lib.hid (show (1 : Nat) = [(⟨sc, nu, 1, ti, xl, [], xA, xc⟩ : Rec)].length from rfl)
  have HEV2 := Lib.hid (show ∀ (W : World) (A : Option Addr) (k c : Nat), OwnR rcR w4 W (.slice A k c) (([] ++ rs) ++ [⟨sc, nu, 1, ti, xl, [], xA, xc⟩]) → Calls Tryz.prog 8 #[.slice lA n lc, .slice A k c, .string lab] W (EvtP E W) from fun W A k c ho => by
    have hk := G4.out.trans ho.2
    have h := events8 l (rs ++ [⟨sc, nu, 1, ti, xl, [], xA, xc⟩]) lA A n lc k c lab W (L2.out.keep hk) hn (ho.recs rcOk).1 (Lib.hid (ho.recs rcOk).2) (fun y hy => by
      rcases List.mem_append.1 hy with hy | hy
      · exact (OK2.out y hy).keep hk
      · rw [List.mem_singleton] at hy
        subst hy
        exact XK2.out.keep hk) hn1000 HB2.out HOF.out (T2.out.keep hk)
    rw [HE2.out] at h
    exact h)
  have SOF := Lib.hid (show ∀ X, Keeps w4 X → (fun w' => w'.cell? ⟨w.heap.size, 0, none⟩ = some (.int .i64 sc) ∧ w'.cell? ⟨w.heap.size, 1, none⟩ = some (.int .i64 nu) ∧ w'.cell? ⟨w.heap.size, 2, none⟩ = some (.int .i64 1) ∧ w'.cell? ⟨w.heap.size, 3, none⟩ = some (.int .i64 ti) ∧ w'.cell? ⟨w.heap.size, 4, none⟩ = some (.string xl) ∧ w'.cell? ⟨w.heap.size, 5, none⟩ = some (.slice xA 0 xc) ∧ Keeps w4 w') X from fun X hX => ⟨cell_keep y0 hX, cell_keep y1 hX, cell_keep y2 hX, cell_keep y3 hX, cell_keep y4 hX, cell_keep y5 hX, hX⟩)
  clear y0 y1 y2 y3 y4 y5
  go_cut [17] from 77 to 85 (fun v wx => EvtV E w4 v wx)
  case first =>
    go_region_held3 (fun w' => w'.cell? ⟨w.heap.size, 0, none⟩ = some (.int .i64 sc) ∧ w'.cell? ⟨w.heap.size, 1, none⟩ = some (.int .i64 nu) ∧ w'.cell? ⟨w.heap.size, 2, none⟩ = some (.int .i64 1) ∧ w'.cell? ⟨w.heap.size, 3, none⟩ = some (.int .i64 ti) ∧ w'.cell? ⟨w.heap.size, 4, none⟩ = some (.string xl) ∧ w'.cell? ⟨w.heap.size, 5, none⟩ = some (.slice xA 0 xc) ∧ Keeps w4 w') ((refine SOF.out _ ?_; (repeat (first | exact Keeps.refl _ | assumption | apply Keeps.drew | apply Keeps.alloc)); done)) (first | (go_at_call 8; (with_reducible refine (HEV2.out _ _ _ _ ho6).mono ?_); rintro e w7 ⟨A7, n7, c7, ys, rfl, hn7, hr7, hk7', hy7, hok7⟩; have hk7 : Keeps w4 w7 := hk6.trans hk7'; have EV7 := Lib.hid (show EvtV E w4 (.slice A7 n7 c7) w7 from ⟨A7, n7, c7, ys, rfl, hn7, hr7, hk7, hy7, hok7⟩); clear hn7 hr7 hk7' hy7 hok7) | (refine step_appR rcOk (w0 := w4) (by rfl) (.tmp 80) (.tmp 82) (by rfl) _ ([] ++ rs) (by rfl) (ho5.keep ((Keeps.refl w5).alloc (.cells #[.int .i64 sc, .int .i64 nu, .int .i64 1, .int .i64 ti, .string xl, .slice xA 0 xc] 26))) _ _ _ [⟨sc, nu, 1, ti, xl, [], xA, xc⟩] (by rfl) (RecIn.lit rcOk w5 [⟨sc, nu, 1, ti, xl, [], xA, xc⟩] #[.int .i64 sc, .int .i64 nu, .int .i64 1, .int .i64 ti, .string xl, .slice xA 0 xc] rfl) ONE LE2 ?_; intro A6 n6 c6 w6 ho6 hg6; have hk6 : Keeps w4 w6 := ho6.2) | (have lt1 := (LIT1.out.keep (Keeps.refl _).drew).grownR hg5 (fun b o t e => (by cases e; exact fun e2 => absurd (Option.some.inj (show some (w4.heap.size + 1) = some w4.heap.size from e2)) (by omega))); refine step_appR rcOk (w0 := w4) (by rfl) (.tmp 80) (.tmp 82) (by rfl) _ ([] ++ rs) (by rfl) (ho5) _ _ _ [⟨sc, nu, 1, ti, xl, [], xA, xc⟩] (by rfl) (lt1) ONE LE2 ?_; intro A6 n6 c6 w6 ho6 hg6; have hk6 : Keeps w4 w6 := ho6.2) | (have lt2 := (LIT2.out.keep ((Keeps.refl _).alloc (.cells #[] 26)).drew).grownR hg5 (fun b o t e => (by cases e; exact fun e2 => absurd (Option.some.inj (show some w4.heap.size = some (w4.heap.size + 1) from e2)) (by omega))); refine step_appR rcOk (w0 := w4) (by rfl) (.tmp 80) (.tmp 82) (by rfl) _ ([] ++ rs) (by rfl) (ho5) _ _ _ [⟨sc, nu, 1, ti, xl, [], xA, xc⟩] (by rfl) (lt2) ONE LE2 ?_; intro A6 n6 c6 w6 ho6 hg6; have hk6 : Keeps w4 w6 := ho6.2) | (refine step_appR rcOk (w0 := w4) (by rfl) (.tmp 78) (.tmp 79) (by rfl) _ [] (by rfl) (own0.out.keep (Keeps.refl _).drew) _ _ _ rs (by rfl) (R4.out.keep ((Keeps.refl w4).alloc (.cells #[] 26)).drew) hm LE1 ?_; intro A5 n5 c5 w5 ho5 hg5; have hk5 : Keeps w4 w5 := ho5.2) | (refine step_appR rcOk (w0 := w4) (by rfl) (.tmp 78) (.tmp 79) (by rfl) _ [] (by rfl) (own0.out.keep ((Keeps.refl _).alloc (.cells #[.int .i64 sc, .int .i64 nu, .int .i64 1, .int .i64 ti, .string xl, .slice xA 0 xc] 26)).drew) _ _ _ rs (by rfl) (R4.out.keep (((Keeps.refl w4).alloc (.cells #[] 26)).alloc (.cells #[.int .i64 sc, .int .i64 nu, .int .i64 1, .int .i64 ti, .string xl, .slice xA 0 xc] 26)).drew) hm LE1 ?_; intro A5 n5 c5 w5 ho5 hg5; have hk5 : Keeps w4 w5 := ho5.2) | (refine step_appR rcOk (w0 := w4) (by rfl) (.tmp 78) (.tmp 79) (by rfl) _ [] (by rfl) (OWN1.out.keep (Keeps.refl _).drew) _ _ _ rs (by rfl) (R4.out.keep (((Keeps.refl w4).alloc (.cells #[.int .i64 sc, .int .i64 nu, .int .i64 1, .int .i64 ti, .string xl, .slice xA 0 xc] 26)).alloc (.cells #[] 26)).drew) hm LE1 ?_; intro A5 n5 c5 w5 ho5 hg5; have hk5 : Keeps w4 w5 := ho5.2))
    all_goals skip
    all_goals (rename_i hH; clear hH; go_wp2_with fail; go_meet)
    all_goals exact EV7.out
  case rest =>
    obtain ⟨A8, n8, c8, ys, rfl, hn8, hr8, hk8, hy8, hok8⟩ := hcut
    have G8 := Lib.hid hk8
    have K8 := Lib.hid (K2.out.trans (G4.out.trans hk8))
    have S8 := Lib.hid hr8; have N8 := Lib.hid hn8; have Y8 := Lib.hid hy8; have P8 := Lib.hid hok8
    clear hn8 hr8 hk8 hy8 hok8 hblt4
    obtain rfl : n8 = n4 := by
      have h1 := congrArg List.length X4.out
      have h2 := congrArg List.length Y8.out
      have := N4.out; have := N8.out
      simp at h1 h2
      omega
    have hn14 : n8 ≤ 14 := by
      have h1 := congrArg List.length X4.out
      have := N4.out; have := HEL.out
      simp at h1
      omega
    have SX := Lib.hid (S4.out.keep G8.out)
    have PX := Lib.hid (fun v hv => (O4.out v hv).keep G8.out)
    have W8 := Lib.hid (W2.out.keep (G4.out.trans G8.out))
    have RK8 := Lib.hid (show RowsOk wc wc.heap.size rows from fun r hr => (RK2.out r hr).keep (G4.out.trans G8.out))
    have SAY := Lib.hid (show xs.map Ev.say = ys.map Ev.say by rw [X4.out, Y8.out])
    have HSM := Lib.hid (same9 xs ys A4 A8 n8 c4 c8 wc SX.out S8.out N4.out SAY.out PX.out P8.out (by omega))
    clear HEV2 SOF HE HE2 HB1 HB2 own0 OWN1 LIT1 LIT2 LE1 LE2 ONE R4 L2 R2 T2 OK2 XK2 W2 RK2
    have hp20 : FewE xs rows → p ≤ 20 := fun h => by rw [hp.out]; exact h.nr
    by_cases hfe : FewE xs rows
    rotate_left
    · go_wp2_with (first | (go_at_call 9; (with_reducible refine HSM.out.mono ?_); rintro e w9 ⟨rfl, hk9⟩; have G9 := Lib.hid hk9; have HNO := Lib.hid (few10_no xs rows A4 WA n8 c4 p wcap w9 (SX.out.keep hk9) N4 (W8.out.keep hk9) hp (by omega) (by omega) hfe); have HSM9 := Lib.hid (same9 xs ys A4 A8 n8 c4 c8 w9 (SX.out.keep hk9) (S8.out.keep hk9) N4 SAY.out (fun v hv => (PX.out v hv).keep hk9) (fun v hv => (P8.out v hv).keep hk9) (by omega)); clear hk9) | (go_at_call 10; (with_reducible refine HNO.out.mono ?_); rintro e w10 ⟨rfl, rfl⟩) | (go_at_call 9; (with_reducible refine HSM9.out.mono ?_); rintro e w11 ⟨rfl, hk11⟩; have G11 := Lib.hid hk11; clear hk11))
      go_ret
      exact ⟨rfl, K8.out.trans (G9.out.trans G11.out)⟩
    have hpm20 : p ≤ 20 := hp20 hfe
    have HRL := Lib.hid (show ∀ r ∈ rows, r.l.length ≤ 1000 from fun r hr => by have := hfe.rl r hr; omega)
    have HFE := Lib.hid hfe
    clear hp20 hfe
    go_upto_region 8 with (first | (go_at_call 9; (with_reducible refine HSM.out.mono ?_); rintro e w9 ⟨rfl, hk9⟩; have G9 := Lib.hid hk9; have HYES := Lib.hid (few10_yes xs rows A4 WA n8 c4 p wcap w9 (SX.out.keep hk9) N4 (W8.out.keep hk9) hp (by omega) (by omega) HFE.out); clear hk9) | (go_at_call 10; (with_reducible refine HYES.out.mono ?_); rintro e w10 ⟨rfl, rfl⟩))
    have HT9 := token_any secret lab w9 (by omega)
    obtain ⟨tk, htk⟩ : ∃ t, tokF secret lab = t := ⟨_, rfl⟩
    rw [htk] at HT9
    have TK := Lib.hid htk.symm
    have HTK := Lib.hid HT9
    obtain ⟨S, hS⟩ : ∃ S, (if rows = [] then [] else seeF rows E) = S := ⟨_, rfl⟩
    have HSX := Lib.hid (show (if rows = [] then [] else seeF rows (xs.map Ev.say)) = S by rw [X4.out]; exact hS)
    have HSY := Lib.hid (show (if rows = [] then [] else seeF rows (ys.map Ev.say)) = S by rw [Y8.out]; exact hS)
    have HSMEM := Lib.hid (show ∀ s ∈ S, ∃ v ∈ xs.map Ev.say, sightOf v = s from fun s hs => by
      rw [← hS] at hs
      rw [X4.out]
      by_cases h0 : rows = []
      · rw [if_pos h0] at hs
        cases hs
      · rw [if_neg h0] at hs
        exact seeF_mem hs)
    have HSN := Lib.hid (show S.length ≤ 14 by
      rw [← hS]
      by_cases h0 : rows = []
      · rw [if_pos h0]
        simp
      · rw [if_neg h0]
        exact Nat.le_trans (seeF_len rows E) HEL.out)
    clear HT9 htk hS HYES HFE
    go_upto_region 9 with (go_at_call 11; (with_reducible refine HTK.out.mono ?_); rintro e w10 ⟨rfl, hk10⟩; have G10 := Lib.hid (G9.out.trans hk10); clear hk10)
    have HS1 := Lib.hid (see_right secret tk lab rows xs A4 WA n8 c4 p wcap w10 (SX.out.keep G10.out) N4 (W8.out.keep G10.out) hp (fun v hv => (PX.out v hv).keep G10.out) (fun r hr => (RK8.out r hr).keep G10.out) (by omega) (by omega) HRL.out (by omega) TK S HSX)
    go_upto_region 10 with (go_at_call 12; (with_reducible refine HS1.out.mono ?_); rintro e w11 ⟨A11, n11, c11, rfl, hn11, hr11, hk11⟩; have N11 := Lib.hid hn11; have R11 := Lib.hid hr11; have G11 := Lib.hid (G10.out.trans hk11); clear hn11 hr11 hk11)
    have HS2 := Lib.hid (see_right secret tk lab rows ys A8 WA n8 c8 p wcap w11 (S8.out.keep G11.out) N8 (W8.out.keep G11.out) hp (fun v hv => (P8.out v hv).keep G11.out) (fun r hr => (RK8.out r hr).keep G11.out) (by omega) (by omega) HRL.out (by omega) TK S HSY)
    go_upto_region 11 with (go_at_call 12; (with_reducible refine HS2.out.mono ?_); rintro e w12 ⟨A12, n12, c12, rfl, hn12, hr12, hk12⟩; have N12 := Lib.hid hn12; have R12 := Lib.hid hr12; have K12 := Lib.hid hk12; have G12 := Lib.hid (G11.out.trans hk12); clear hn12 hr12 hk12)
    obtain rfl : n12 = n11 := N12.out.trans N11.out.symm
    have hn12 : n12 ≤ 14 := by rw [N12.out]; exact HSN.out
    have R11b := Lib.hid (R11.out.keep K12.out)
    have HS3 := Lib.hid (same13 S A11 A12 n12 c11 c12 w12 R11b.out R12.out N12 (by omega))
    clear HS1 HS2 HTK N11 R11 K12 G9 G10 G11 HSX HSY
    go_wp2_with (go_at_call 13; (with_reducible refine HS3.out.mono ?_); rintro e w13 ⟨rfl, hk13⟩; have G13 := Lib.hid (G12.out.trans hk13); have R13 := Lib.hid (R11b.out.keep hk13); clear hk13)
    have SX13 := Lib.hid (SX.out.keep G13.out)
    clear HS3 R11b R12 G12
    go_loopw [23, 24, 25] (fun i a b wx => ∃ j : Nat, j ≤ n12 ∧ i = .int .i64 (j : Int) ∧ Keeps w13 wx) (fun i a b _ => n12 - (intOf i).toNat)
    case atStart => exact ⟨0, by omega, rfl, Keeps.refl w13⟩
    case round =>
      obtain ⟨j, hj, rfl, hK⟩ := hrel
      have HK := Lib.hid hK
      clear hK
      by_cases hjn : j < n12
      · obtain ⟨s, hs⟩ : ∃ s, S[j]? = some s := ⟨_, List.getElem?_eq_getElem (by have := N12.out; omega)⟩
        have HANY := Lib.hid (anyF_all (HSMEM.out s (List.mem_of_getElem? hs)))
        obtain ⟨sb, so_, rfl, hsb, s0, s1, s2⟩ := (R13.out.keep HK.out).si hs
        have SXr := Lib.hid (SX13.out.keep HK.out)
        obtain ⟨so, sl, sh⟩ := s
        change World.cell? _ _ = some (.int .i64 so) at s0
        change World.cell? _ _ = some (.int .i64 sl) at s1
        change World.cell? _ _ = some (.int .i64 sh) at s2
        have jn : (j : Int) < (n12 : Int) := by omega
        have j0 : (0 : Int) ≤ (j : Int) := by omega
        have jw : IntKind.i64.wrap ((j : Int) + 1) = (j : Int) + 1 := wrap_in (by omega) (by omega)
        clear hs
        go_wp2_with fail
        generalize hwz : wr = wz at *
        clear hwz
        go_loopw [24, 25] (fun a b wx => ∃ k : Nat, k ≤ n8 ∧ OwnL xs ⟨so, sl, sh⟩ k a ∧ b = .int .i64 (k : Int) ∧ Keeps wz wx) (fun a b _ => n8 - (intOf b).toNat)
        case atStart => exact ⟨0, by omega, rfl, rfl, Keeps.refl wz⟩
        case round =>
          obtain ⟨k, hk, hO, rfl, hK2⟩ := hrel
          have HK2 := Lib.hid hK2
          clear hK2
          obtain ⟨g, hg⟩ : ∃ g, anyF (xs.take k) ⟨so, sl, sh⟩ = g := ⟨_, rfl⟩
          unfold OwnL at hO
          rw [hg] at hO
          subst hO
          have HG := Lib.hid hg
          clear hg
          by_cases hkn : k < n8
          · obtain ⟨v, hv⟩ : ∃ v, xs[k]? = some v := ⟨_, List.getElem?_eq_getElem (by have := N4.out; omega)⟩
            have HSNC := Lib.hid (anyF_snoc (s := ⟨so, sl, sh⟩) hv)
            obtain ⟨vb, vo_, rfl, hvb, v0, v1, v2, v3⟩ := (SXr.out.keep HK2.out).ev hv
            obtain ⟨vo, vl, vh, nd, nA, nc⟩ := v
            change World.cell? _ _ = some (.int .i64 vo) at v0
            change World.cell? _ _ = some (.int .i64 vl) at v1
            change World.cell? _ _ = some (.int .i64 vh) at v2
            have z0 := cell_keep s0 HK2.out
            have z1 := cell_keep s1 HK2.out
            have z2 := cell_keep s2 HK2.out
            have HS4 := Lib.hid (show anyF (xs.take (k + 1)) ⟨so, sl, sh⟩ = (g || (vo == so && vl == sl && vh == sh)) by rw [HSNC.out, HG.out])
            have kn : (k : Int) < (n8 : Int) := by omega
            have k0 : (0 : Int) ≤ (k : Int) := by omega
            have kw : IntKind.i64.wrap ((k : Int) + 1) = (k : Int) + 1 := wrap_in (by omega) (by omega)
            clear hv v3 HSNC HG s0 s1 s2
            cases g
            · by_cases e1 : vo = so
              · subst e1
                by_cases e2 : vl = sl
                · subst e2
                  by_cases e3 : vh = sh
                  · subst e3
                    go_upto_region 20 with fail
                    go_quiet (fail)
                    go_wp2_with fail
                    go_roundw
                    case rel => exact ⟨k + 1, by omega, (by unfold OwnL; rw [HS4.out]; simp [*]), by go_num, HK2.out.trans ((Keeps.refl wr).drewN _)⟩
                    case measure => simp [intOf]; omega
                  · have e3b : (vh == sh) = false := by simpa using e3
                    have e3c : decide (vh = sh) = false := by simpa using e3
                    go_upto_region 20 with fail
                    go_quiet (fail)
                    go_wp2_with fail
                    go_roundw
                    case rel => exact ⟨k + 1, by omega, (by unfold OwnL; rw [HS4.out]; simp [*]), by go_num, HK2.out.trans ((Keeps.refl wr).drewN _)⟩
                    case measure => simp [intOf]; omega
                · have e2b : (vl == sl) = false := by simpa using e2
                  have e2c : decide (vl = sl) = false := by simpa using e2
                  go_upto_region 20 with fail
                  go_quiet (fail)
                  go_wp2_with fail
                  go_roundw
                  case rel => exact ⟨k + 1, by omega, (by unfold OwnL; rw [HS4.out]; simp [*]), by go_num, HK2.out.trans ((Keeps.refl wr).drewN _)⟩
                  case measure => simp [intOf]; omega
              · have e1b : (vo == so) = false := by simpa using e1
                have e1c : decide (vo = so) = false := by simpa using e1
                go_upto_region 20 with fail
                go_quiet (fail)
                go_wp2_with fail
                go_roundw
                case rel => exact ⟨k + 1, by omega, (by unfold OwnL; rw [HS4.out]; simp [*]), by go_num, HK2.out.trans ((Keeps.refl wr).drewN _)⟩
                case measure => simp [intOf]; omega
            · go_upto_region 20 with fail
              go_quiet (fail)
              go_wp2_with fail
              go_roundw
              case rel => exact ⟨k + 1, by omega, (by unfold OwnL; rw [HS4.out]; simp [*]), by go_num, HK2.out.trans ((Keeps.refl wr).drewN _)⟩
              case measure => simp [intOf]; omega
          · obtain rfl : k = n8 := by omega
            have hgt : g = true := by rw [← HG.out, List.take_of_length_le (by have := N4.out; omega)]; exact HANY.out
            subst hgt
            go_wp2_with fail
            go_roundw
            case rel => exact ⟨j + 1, by omega, by go_num, HK.out.trans HK2.out⟩
            case measure => simp [intOf]; omega
      · obtain rfl : j = n12 := by omega
        have KF := Lib.hid (G13.out.trans HK.out)
        by_cases ho : other = tk
        · subst ho
          have HS6 := Lib.hid (see_right secret other lab rows xs A4 WA n8 c4 p wcap wr (SX.out.keep KF.out) N4 (W8.out.keep KF.out) hp (fun v hv => (PX.out v hv).keep KF.out) (fun r hr => (RK8.out r hr).keep KF.out) (by omega) (by omega) HRL.out (by omega) TK _ (Lib.hid rfl))
          go_wp2_with (go_at_call 12; (with_reducible refine HS6.out.mono ?_); rintro e w14 ⟨A14, n14, c14, rfl, hn14, hr14, hk14⟩; have K14 := Lib.hid hk14; clear hn14 hr14 hk14)
          go_ret
          exact ⟨rfl, K8.out.trans (KF.out.trans K14.out)⟩
        · have HS6 := Lib.hid (see_wrong secret other lab rows xs A4 WA n8 c4 p wcap wr (SX.out.keep KF.out) N4 (W8.out.keep KF.out) hp (fun v hv => (PX.out v hv).keep KF.out) (fun r hr => (RK8.out r hr).keep KF.out) (by omega) (by omega) HRL.out (by omega) (Lib.hid (show other ≠ tokF secret lab by rw [← TK.out]; exact ho)))
          have o1 : (other == tk) = false := by simpa using ho
          have o2 : decide (other = tk) = false := by simpa using ho
          go_wp2_with (go_at_call 12; (with_reducible refine HS6.out.mono ?_); rintro e w14 ⟨rfl, hk14⟩; have K14 := Lib.hid hk14; clear hk14)
          go_ret
          exact ⟨rfl, K8.out.trans (KF.out.trans K14.out)⟩
end Go.Proofs.YthkmpegpmpdhaaaGreatDoor
