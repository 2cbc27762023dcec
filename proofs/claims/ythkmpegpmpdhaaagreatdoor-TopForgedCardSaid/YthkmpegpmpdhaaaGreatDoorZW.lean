/- Part of the proof of x. Conditions: as stated in each theorem. -/
import Derived.Test.YthkmpegpmpdhaaaGreatDoorZV
import Derived.Test.YthkmpegpmpdhaaaGreatDoorProg
import Derived.WalkKit
import Derived.WalkSpells
import Derived.WalkLawsBesides
import Derived.Laws.EntriesVeiled
import Derived.ProofKit
import Derived.OpenShut
import Derived.Lib.Hide
import Derived.BigQuiet
import Derived.Deep.QuietTactic
import Derived.Deep.CutRange
import Derived.StillTailTactics
import Derived.Lib.SliceRun
import Derived.RangeFuncRecord
import Derived.Carry
import Derived.ChangeKeysEq
import Derived.Below
import Derived.Laws.OwnMore
import Derived.Deep.AppendLies
import Derived.Deep.Draws
import Derived.Laws.Rows
import Derived.Maps.AppendAt
import Derived.RegionTactic
import Derived.OwnWalk
import Derived.Deep.RegionHeld3
namespace Go.Proofs.YthkmpegpmpdhaaaGreatDoor
open Go.ChangeShapes Go.WideShapes Go.ChangeAt Go.RowKit
set_option linter.unusedSimpArgs false
set_option linter.unusedVariables false
def scOkF (s : Scn) : Bool := decide (0 ≤ s.op) && (decide (0 ≤ s.off) && (decide (0 ≤ s.er) && decide (s.er ≤ 10000)))
/-- Whether a record is well-formed. -/
def validF (l : List Scn) (x : Rec) : Bool :=
  if 24 < l.length then false else if x.sc < 0 then false else
    match l[x.sc.toNat]? with
    | some s => scOkF s && completeF x
    | none => false
set_option maxRecDepth 100000 in
set_option maxHeartbeats 4000000 in
theorem valid59 (l : List Scn) (x : Rec) (lA : Option Addr) (n lc : Nat) (w : World) (hl : RecIn scR w w.heap.size lA l) (hn : Hid (n = l.length)) (hnm : n ≤ 9223372036854775807) (h : RecOk w w.heap.size x) :
    Calls Tryz.prog 59 #[.slice lA n lc, recA x] w (BoolPost (validF l x) w) := by
  obtain ⟨r, hr⟩ : ∃ r, validF l x = r := ⟨_, rfl⟩
  have HR := Lib.hid hr
  rw [hr]
  clear hr
  obtain ⟨sc, nu, ki, ti, lab, con, A, c⟩ := x
  change Calls Tryz.prog 59 #[.slice lA n lc, .agg #[.int .i64 sc, .int .i64 nu, .int .i64 ki, .int .i64 ti, .string lab, .slice A con.length c]] w _
  obtain ⟨q, hq⟩ : ∃ q, q = con.length := ⟨_, rfl⟩
  rw [← hq]
  have HQ := Lib.hid hq
  clear hq
  have k1 := (Keeps.refl w).alloc (.cells #[.int .i64 sc, .int .i64 nu, .int .i64 ki, .int .i64 ti, .string lab, .slice A q c] 26)
  have K1 := Lib.hid k1
  have HK := Lib.hid (h.keep k1)
  have HLL := Lib.hid (hl.keep k1)
  clear h k1 hl
  by_cases h24 : 24 < n
  · have d1 : decide (24 < (n : Int)) = true := by simp; omega
    have d1' : decide (24 < n) = true := by simp; omega
    have HRR := Lib.hid (show false = r by rw [← HR.out]; unfold validF; rw [if_pos (by rw [← hn.out]; exact h24)])
    go_enter Tryz.func59, Tryz.ntmps59
    go_wp2_with fail
    go_ret
    exact bool_post (by rw [← HRR.out]) K1.out
  have d1 : decide (24 < (n : Int)) = false := by simp; omega
  have d1' : decide (24 < n) = false := by simp; omega
  have HR1 := Lib.hid (show (if sc < 0 then false else match l[sc.toNat]? with | some s => scOkF s && completeF ⟨sc, nu, ki, ti, lab, con, A, c⟩ | none => false) = r by rw [← HR.out]; unfold validF; rw [if_neg (c := 24 < l.length) (by rw [← hn.out]; exact h24)])
  by_cases h0 : sc < 0
  · have d2 : decide (sc < 0) = true := by simpa using h0
    have HRR := Lib.hid (show false = r by rw [← HR1.out, if_pos h0])
    go_enter Tryz.func59, Tryz.ntmps59
    go_wp2_with fail
    go_ret
    exact bool_post (by rw [← HRR.out]) K1.out
  have d2 : decide (sc < 0) = false := by simpa using h0
  have s0 : 0 ≤ sc := by omega
  by_cases hsn : (n : Int) ≤ sc
  · have d3 : decide ((n : Int) ≤ sc) = true := by simpa using hsn
    have HRR := Lib.hid (show false = r by rw [← HR1.out, if_neg h0, List.getElem?_eq_none (by have := hn.out; omega)])
    go_enter Tryz.func59, Tryz.ntmps59
    go_wp2_with fail
    go_ret
    exact bool_post (by rw [← HRR.out]) K1.out
  have d3 : decide ((n : Int) ≤ sc) = false := by simpa using hsn
  have s1 : sc < (n : Int) := by omega
  obtain ⟨i, rfl⟩ : ∃ i : Nat, sc = (i : Int) := ⟨sc.toNat, by omega⟩
  have hil : i < l.length := by have := hn.out; omega
  obtain ⟨s, hs⟩ : ∃ s, l[i]? = some s := ⟨_, List.getElem?_eq_getElem hil⟩
  have HR2 := Lib.hid (show (scOkF s && completeF ⟨i, nu, ki, ti, lab, con, A, c⟩) = r by rw [← HR1.out, if_neg h0, Int.toNat_natCast, hs])
  obtain ⟨b, o, rfl, hb, e0, e1, e2⟩ := HLL.out.sc hs
  obtain ⟨op, off, er⟩ := s
  change World.cell? _ _ = some (.int .i64 op) at e0
  change World.cell? _ _ = some (.int .i64 off) at e1
  change World.cell? _ _ = some (.int .i64 er) at e2
  have iin : i < n := by omega
  have K2 := Lib.hid (K1.out.alloc (.cells #[.int .i64 op, .int .i64 off, .int .i64 er] 72))
  have HC := Lib.hid (complete105 ⟨i, nu, ki, ti, lab, con, A, c⟩ _ (HK.out.keep ((Keeps.refl _).alloc (.cells #[.int .i64 op, .int .i64 off, .int .i64 er] 72))))
  replace HC := Lib.hid (show Calls Tryz.prog 105 #[.agg #[.int .i64 (i : Int), .int .i64 nu, .int .i64 ki, .int .i64 ti, .string lab, .slice A q c]] _ _ by have := HC.out; unfold recA at this; simp only at this; rw [← HQ.out] at this; exact this)
  obtain ⟨cf, hcf⟩ : ∃ b, completeF ⟨i, nu, ki, ti, lab, con, A, c⟩ = b := ⟨_, rfl⟩
  rw [hcf] at HC HR2
  clear hs hcf h0 d2 hsn hil
  by_cases g1 : 0 ≤ op
  case neg =>
    have x1 : decide (0 ≤ op) = false := by simpa using g1
    have HRR := Lib.hid (show false = r by rw [← HR2.out]; simp only [scOkF]; rw [x1]; rfl)
    go_enter Tryz.func59, Tryz.ntmps59
    go_wp2_with fail
    go_ret
    exact bool_post (by rw [← HRR.out]) K2.out
  have x1 : decide (0 ≤ op) = true := by simpa using g1
  by_cases g2 : 0 ≤ off
  case neg =>
    have x2 : decide (0 ≤ off) = false := by simpa using g2
    have HRR := Lib.hid (show false = r by rw [← HR2.out]; simp only [scOkF]; rw [x1, x2]; rfl)
    go_enter Tryz.func59, Tryz.ntmps59
    go_wp2_with fail
    go_ret
    exact bool_post (by rw [← HRR.out]) K2.out
  have x2 : decide (0 ≤ off) = true := by simpa using g2
  by_cases g3 : 0 ≤ er
  case neg =>
    have x3 : decide (0 ≤ er) = false := by simpa using g3
    have HRR := Lib.hid (show false = r by rw [← HR2.out]; simp only [scOkF]; rw [x1, x2, x3]; rfl)
    go_enter Tryz.func59, Tryz.ntmps59
    go_wp2_with fail
    go_ret
    exact bool_post (by rw [← HRR.out]) K2.out
  have x3 : decide (0 ≤ er) = true := by simpa using g3
  by_cases g4 : er ≤ 10000
  case neg =>
    have x4 : decide (er ≤ 10000) = false := by simpa using g4
    have HRR := Lib.hid (show false = r by rw [← HR2.out]; simp only [scOkF]; rw [x1, x2, x3, x4]; rfl)
    go_enter Tryz.func59, Tryz.ntmps59
    go_wp2_with fail
    go_ret
    exact bool_post (by rw [← HRR.out]) K2.out
  have x4 : decide (er ≤ 10000) = true := by simpa using g4
  have HRR := Lib.hid (show cf = r by rw [← HR2.out]; simp only [scOkF]; rw [x1, x2, x3, x4]; rfl)
  go_enter Tryz.func59, Tryz.ntmps59
  go_wp2_with (go_at_call 105; (with_reducible refine HC.out.mono ?_); rintro e w2 ⟨rfl, hk⟩; have KC := Lib.hid (K2.out.trans hk); clear hk)
  go_ret
  exact bool_post (by rw [← HRR.out]) KC.out
end Go.Proofs.YthkmpegpmpdhaaaGreatDoor
