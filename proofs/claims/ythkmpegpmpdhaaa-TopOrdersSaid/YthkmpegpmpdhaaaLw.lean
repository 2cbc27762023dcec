/- Part of the proofs of TopMoney and TopOrders. Conditions: as stated in each theorem. -/
import Derived.Test.YthkmpegpmpdhaaaRe
import Derived.Deep.CutRange
import Derived.StillTailTactics
import Derived.Lib.SliceRun
import Derived.RangeFuncRecord
import Derived.Carry
import Derived.ChangeKeysEq
import Derived.Shelf.SlSortCmp.Insertion1
import Derived.Shelf.Lay
import Derived.Ground.SlsfProg
import Derived.Sort.LotA
import Derived.Test.YthkmpegpmpdhaaaRows
import Derived.WalkKit
import Derived.WalkSpells
import Derived.WalkLawsBesides
import Derived.Laws.EntriesVeiled
import Derived.ProofKit
import Derived.OpenShut
import Derived.Lib.Hide
import Derived.BigQuiet
import Derived.Deep.QuietTactic
import Derived.Below
import Derived.Laws.OwnMore
import Derived.Deep.AppendLies
import Derived.Deep.Draws
import Derived.Laws.Rows
import Derived.Maps.AppendAt
import Derived.RegionTactic
import Derived.OwnWalk
import Derived.Deep.RegionHeld3
namespace Go.Proofs.Ythkmpegpmpdhaaa
open Go.Shelf Go.Sort Go.ChangeShapes Go.WideShapes Go.ChangeAt Go.RowKit
set_option linter.unusedSimpArgs false
set_option linter.unusedVariables false
/-- What is known of the possible times and their sequence. -/
structure Ready (d : List (List Int)) (es : List Ev) (x : List Int) (out : List Nat) : Prop where
  hd : DistOk d
  ho : ∀ e ∈ es, isOff d e.o
  hh : HoldsP d es x
  hs : SeqI d es x out
  hl : out.length = es.length
  few : es.length ≤ 7
theorem bdsL_len (d : List (List Int)) (es : List Ev) (out : List Nat) : (bdsL d es out).length = 2 * es.length + (es.length - 1) := by
  simp [bdsL, evB_len, sqB_len]
theorem close_law {d : List (List Int)} {es : List Ev} {x : List Int} {out : List Nat} (h : Ready d es x out) (n : Nat) (hn : Hid (es.length = n)) (A : Option Addr) (m c : Nat) (w : World) (hb : RecIn bdR w w.heap.size A (bdsL d es out)) (hm : Hid (m = (bdsL d es out).length)) :
    Calls Try.prog 19 #[.int .i64 ((n : Int) + 1), .slice A m c] w fun e w' => ∃ A k c, e = .returned (.tuple #[.slice A k c, .int .i64 0]) ∧ Keeps w w' := by
  have hn := hn.out
  subst hn
  have hl := bdsL_len d es out
  have hf := h.few
  have h1 := Df.close_ok (es.length + 1) (bdsL d es out) A m c w (bnds_of hb) (by omega) hm (valid_times h.hd h.ho h.hh h.hs h.hl (by omega)) (by omega)
  rw [if_pos (solve_best h.hd h.ho h.hh h.hs h.hl (by omega)).1] at h1
  rw [show ((es.length + 1 : Nat) : Int) = (es.length : Int) + 1 by omega] at h1
  refine h1.mono ?_
  rintro e w' ⟨A', c', he, -, hk⟩
  exact ⟨A', _, c', he, hk⟩
def SolvePost (d : List (List Int)) (es : List Ev) (x : List Int) (n : Nat) (w : World) (e : Ending) (w' : World) : Prop :=
  ∃ b off c y, e = .returned (.tuple #[.slice (some ⟨b, off, none⟩) (n + 1) (n + 1 + c), .int .i64 0]) ∧ RecIn intR w' w'.heap.size (some ⟨b, off, none⟩) y ∧ Hid (y.length = n + 1) ∧ HoldsP d es (y.drop 1) ∧ (∀ i, i < n → at0 x i ≤ at0 y (i + 1)) ∧ Keeps w w'
theorem solve_law {d : List (List Int)} {es : List Ev} {x : List Int} {out : List Nat} (h : Ready d es x out) (n : Nat) (hn : Hid (es.length = n)) (A : Option Addr) (m c : Nat) (w : World) (hb : RecIn bdR w w.heap.size A (bdsL d es out)) (hm : Hid (m = (bdsL d es out).length)) :
    Calls Try.prog 20 #[.int .i64 ((n : Int) + 1), .int .i64 1000000, .slice A m c] w (SolvePost d es x n w) := by
  have hn := hn.out
  subst hn
  have hl := bdsL_len d es out
  have hf := h.few
  have hbest := solve_best h.hd h.ho h.hh h.hs h.hl (by omega)
  have h1 := Df.solve_ok (es.length + 1) 1000000 (bdsL d es out) A m c w (bnds_of hb) (by omega) hm (valid_times h.hd h.ho h.hh h.hs h.hl (by omega)) (by decide) (by omega) (by omega)
  rw [if_pos hbest.2.1] at h1
  rw [show ((es.length + 1 : Nat) : Int) = (es.length : Int) + 1 by omega] at h1
  refine h1.mono ?_
  rintro e w' ⟨A', c', he, hr, hk⟩
  have hyl := Df.row0_len (es.length + 1) (Df.solveM (es.length + 1) 1000000 (bdsL d es out))
  have hsat := hbest.2.2
  generalize Df.row0 (es.length + 1) (Df.solveM (es.length + 1) 1000000 (bdsL d es out)) = y at *
  have hr' := ints_of hr
  obtain ⟨b, off, hA, -, -⟩ := hr'.int (j := 0) (x := y[0]'(by omega)) (List.getElem?_eq_getElem (by omega))
  subst hA
  refine ⟨b, off, c', y, by rw [he, hyl], hr', Lib.hid hyl, holds_of_sat h.hd h.ho h.hs h.hl hsat.1 hsat.2.1 (at_drop y) (by simp [hyl]), fun i hi => ?_, hk⟩
  have := hsat.2.2 i hi
  have e2 : Df.at' y ((i : Int) + 1) = at0 y (i + 1) := by
    unfold Df.at' at0
    rw [show ((i : Int) + 1).toNat = i + 1 by omega]
  rw [e2] at this; exact this
theorem holdsD_law {d : List (List Int)} {es : List Ev} {x : List Int} {out : List Nat} (h : Ready d es x out) (A : Option Addr) (k c : Nat) (B : Option Addr) (m c' : Nat) (w : World) (hx : RecIn intR w w.heap.size A ([0] ++ x)) (hk : Hid (k = ([0] ++ x).length)) (hb : RecIn bdR w w.heap.size B (bdsL d es out)) (hm : Hid (m = (bdsL d es out).length)) :
    Calls Try.prog 21 #[.slice A k c, .slice B m c'] w (BoolPost true w) := by
  have hl := bdsL_len d es out
  have hf := h.few
  have hxl := h.hh.len
  exact Df.holds_any ([0] ++ x) (bdsL d es out) A k c B m c' w (nums_of hx) (bnds_of hb) (by simp; omega) (by omega) hk.out hm.out true (holds_times h.hd h.ho h.hh h.hs h.hl (by omega))
/-- Whether values satisfy the bounds: if so, they are possible times. -/
theorem holdsV_law {d : List (List Int)} {es : List Ev} {x vs : List Int} {out : List Nat} (h : Ready d es x out) (hv : Hid (vs.length = es.length)) (A : Option Addr) (k c : Nat) (B : Option Addr) (m c' : Nat) (w : World) (hx : RecIn intR w w.heap.size A ([0] ++ vs)) (hk : Hid (k = ([0] ++ vs).length)) (hb : RecIn bdR w w.heap.size B (bdsL d es out)) (hm : Hid (m = (bdsL d es out).length)) :
    Calls Try.prog 21 #[.slice A k c, .slice B m c'] w (TestPost (HoldsP d es vs) w) := by
  have hl := bdsL_len d es out
  have hf := h.few
  have hxl := hv.out
  refine (Df.holds_any ([0] ++ vs) (bdsL d es out) A k c B m c' w (nums_of hx) (bnds_of hb) (by simp; omega) (by omega) hk.out hm.out _ rfl).mono ?_
  rintro e w' ⟨he, hkk⟩
  exact ⟨_, he, hkk, fun hh => holds_of_sat h.hd h.ho h.hs h.hl (sat_of_holds hh) rfl (fun i => (at_one vs i).symm) hxl⟩
/-- A list of one number, just made. -/
theorem OwnR.lit1 {w0 w : World} (h : Keeps w0 w) (x : Int) : OwnR intR w0 (w.alloc (.cells #[.int .i64 x] 3)) (.slice (some ⟨w.heap.size, 0, none⟩) 1 1) [x] :=
  ⟨World.ownsRow_lit w #[.int .i64 x] 1 h.size (by decide) rfl, h.alloc _⟩
end Go.Proofs.Ythkmpegpmpdhaaa
