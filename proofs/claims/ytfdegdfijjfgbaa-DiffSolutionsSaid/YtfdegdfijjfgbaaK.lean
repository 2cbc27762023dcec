import Derived.Test.YtfdegdfijjfgbaaJ
import Derived.Deep.CutRange
import Derived.Test.YtfdegdfijjfgbaaRows
import Derived.WalkKit
import Derived.WalkSpells
import Derived.WalkLawsBesides
import Derived.Laws.EntriesVeiled
import Derived.ProofKit
import Derived.OpenShut
import Derived.Lib.Hide
import Derived.BigQuiet
import Derived.Deep.QuietTactic
import Derived.Below
import Derived.Laws.OwnMore
import Derived.Deep.AppendLies
import Derived.Deep.Draws
import Derived.Laws.Rows
import Derived.Maps.AppendAt
import Derived.RegionTactic
import Derived.OwnWalk
import Derived.Deep.RegionHeld3
namespace Go.Proofs.Ytfdegdfijjfgbaa
open Go.ChangeShapes Go.WideShapes Go.ChangeAt Go.RowKit
set_option linter.unusedSimpArgs false
set_option linter.unusedVariables false
/-- What Close answers, for all the laws. -/
def CloseIs (n : Int) (l : List Bd) (b : Int) (d : Nat → Nat → Int) : Prop :=
  ∀ (A : Option Addr) (m c : Nat) (w : World), Bnds w w.heap.size A l → Hid (m = l.length) → Calls Try.prog 12 #[.int .i64 n, .slice A m c] w (RowsPost (if b = 0 then matF n.toNat d else []) b w)
def CloseSays (n : Int) (l : List Bd) (b : Int) (d : Nat → Nat → Int) : Prop := (b = 0 ∧ NoNeg (Edge l) ∧ Least (Edge l) n.toNat d) ∨ (b = 240 ∧ ¬ NoNeg (Edge l))
theorem close_law {n : Int} {l : List Bd} (hv : validB n l = true) (h12 : n ≤ 12) (hn : l.length ≤ 400) : ∃ b d, CloseSays n l b d ∧ CloseIs n l b d := by
  have h0 := valid_n hv
  obtain ⟨N, rfl⟩ : ∃ N : Nat, n = (N : Int) := ⟨n.toNat, by omega⟩
  have hN : N ≤ 12 := by omega
  by_cases hb : leastB N (startF l) = true
  · refine ⟨0, closeM N l, .inl ⟨rfl, (close_iff hv hN).1 hb, by rw [Int.toNat_natCast]; exact close_least hv hN hb⟩, fun A m c w hl hm => ?_⟩
    have := close_ok N l A m c w hl hn hm hv hN
    rw [if_pos hb] at this
    rw [if_pos rfl, Int.toNat_natCast]; exact this
  · refine ⟨240, closeM N l, .inr ⟨rfl, fun h => hb ((close_iff hv hN).2 h)⟩, fun A m c w hl hm => ?_⟩
    have := close_ok N l A m c w hl hn hm hv hN
    rw [if_neg hb] at this
    rw [if_neg (by decide)]; exact this
theorem rvalid_is (n : Int) (l : List Bd) (A : Option Addr) (m c : Nat) (w : World) (hl : Bnds w w.heap.size A l) (hn : l.length ≤ 400) (hlm : Hid (m = l.length)) (r : Bool) (hr : Hid (validB n l = r)) :
    Calls Try.prog 11 #[.int .i64 n, .slice A m c] w (BoolPost r w) := rvalid_any n l A m c w hl hn hlm.out r hr.out
theorem fewB_spec {n : Int} {l : List Bd} (h : fewB n l = true) : n ≤ 12 ∧ l.length ≤ 40 := by simpa [fewB] using h
theorem close_call {n : Int} {l : List Bd} {b : Int} {d : Nat → Nat → Int} {ls : List (List Int)} (h : Hid (CloseIs n l b d)) (hls : Hid ((if b = 0 then matF n.toNat d else []) = ls)) (A : Option Addr) (m c : Nat) (w : World) (hl : Bnds w w.heap.size A l) (hm : Hid (m = l.length)) : Calls Try.prog 12 #[.int .i64 n, .slice A m c] w (RowsPost ls b w) := hls.out ▸ h.out A m c w hl hm
end Go.Proofs.Ytfdegdfijjfgbaa
