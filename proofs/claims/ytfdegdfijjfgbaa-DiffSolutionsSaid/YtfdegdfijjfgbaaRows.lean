/-
  No cell of these rows narrows 'for every input' (looked for: loops, veiled, ifaces, maps, wideKeys, modest, calm, conditions, laid).
  DERIVED. THE GIVEN ROWS OF THIS SEAT. 6 by the template 'for every input the law returns true; each argument reads behind the call as it read before'; 0 by the template 'total and deterministic' (their statements: YtfdegdfijjfgbaaTotals.lean).
  GIVEN WITH THE SEED: the statements are not yours to turn. If you find one false, say at which input.
  Laid BY PROGRAM, IN A SANDBOX (cutbox-rows.mjs): the forced cells as the released guide's own fill.sh prints them over the translation fa31647c20023a5f… (all of the seat's roots in one cut). By AI agents, Wed Nov 11 2026. No macro, syntax, notation, axiom, sorry.
-/
import Derived.Test.YtfdegdfijjfgbaaChecked
import GoSem.Claim
import GoSem.ClaimJoined
import GoSem.ClaimMapViews
import Derived.JoinedTies
import Derived.KernelRfl
namespace Go.Proofs.Ytfdegdfijjfgbaa
/- THE CELL 'sum', in the pinned program and in every row, IS THE sha256 OF THE DUMP (.gsa) THAT YtfdegdfijjfgbaaProg.lean LOADS. Nothing in Lean hashes anything: it is a label: what it is worth is what the hold of that sum in a sandbox is worth. -/
noncomputable def Try.pinned : Pinned := { name := "ytfdegdfijjfgbaa", sum := "fa31647c20023a5f130188925bf312c126cd203e4190486a3937b284f8f183ff", checked := Try.checked }
namespace Rows
def none {H : Type} : Left H := { results := [], args := [] }

/-- 'postilionlaw24.DiffClosure': WHATEVER THE INPUT: true; the input reads as it did. -/
def diffClosureSpec : ChangeSpec := { name := "diffClosure", fn := fun _ => fun
  | [d1, d2] => { results := [.lit (.bool true)], args := [d1, d2] }
  | _ => none }
def diffClosureRow : OpenClaim := { program := "ytfdegdfijjfgbaa", sum := "fa31647c20023a5f130188925bf312c126cd203e4190486a3937b284f8f183ff", func := "postilion/postilionlaw24.DiffClosure", spec := "diffClosure", unfollowed := true, recurses := true, plainKeys := false, apart := false }
def DiffClosureSaid : Prop := diffClosureRow.holds Try.pinned (OpenSpec.ofChange diffClosureSpec)

/-- ITS FALSE NEIGHBOUR: 'it returns false'. Refute it at one input. -/
def diffClosureWrong : ChangeSpec := { name := "diffClosure", fn := fun _ => fun
  | [d1, d2] => { results := [.lit (.bool false)], args := [d1, d2] }
  | _ => none }
def DiffClosureWrongFalsely : Prop := diffClosureRow.holds Try.pinned (OpenSpec.ofChange diffClosureWrong)

/-- 'postilionlaw24.DiffSolutions': WHATEVER THE INPUT: true; the input reads as it did. -/
def diffSolutionsSpec : ChangeSpec := { name := "diffSolutions", fn := fun _ => fun
  | [d1, d2, d3] => { results := [.lit (.bool true)], args := [d1, d2, d3] }
  | _ => none }
def diffSolutionsRow : OpenClaim := { program := "ytfdegdfijjfgbaa", sum := "fa31647c20023a5f130188925bf312c126cd203e4190486a3937b284f8f183ff", func := "postilion/postilionlaw24.DiffSolutions", spec := "diffSolutions", unfollowed := true, recurses := true, plainKeys := false, apart := false }
def DiffSolutionsSaid : Prop := diffSolutionsRow.holds Try.pinned (OpenSpec.ofChange diffSolutionsSpec)

/-- ITS FALSE NEIGHBOUR: 'it returns false'. Refute it at one input. -/
def diffSolutionsWrong : ChangeSpec := { name := "diffSolutions", fn := fun _ => fun
  | [d1, d2, d3] => { results := [.lit (.bool false)], args := [d1, d2, d3] }
  | _ => none }
def DiffSolutionsWrongFalsely : Prop := diffSolutionsRow.holds Try.pinned (OpenSpec.ofChange diffSolutionsWrong)

/-- 'postilionlaw24.DiffExact': WHATEVER THE INPUT: true; the input reads as it did. -/
def diffExactSpec : ChangeSpec := { name := "diffExact", fn := fun _ => fun
  | [d1, d2, d3, d4] => { results := [.lit (.bool true)], args := [d1, d2, d3, d4] }
  | _ => none }
def diffExactRow : OpenClaim := { program := "ytfdegdfijjfgbaa", sum := "fa31647c20023a5f130188925bf312c126cd203e4190486a3937b284f8f183ff", func := "postilion/postilionlaw24.DiffExact", spec := "diffExact", unfollowed := true, recurses := true, plainKeys := false, apart := false }
def DiffExactSaid : Prop := diffExactRow.holds Try.pinned (OpenSpec.ofChange diffExactSpec)

/-- ITS FALSE NEIGHBOUR: 'it returns false'. Refute it at one input. -/
def diffExactWrong : ChangeSpec := { name := "diffExact", fn := fun _ => fun
  | [d1, d2, d3, d4] => { results := [.lit (.bool false)], args := [d1, d2, d3, d4] }
  | _ => none }
def DiffExactWrongFalsely : Prop := diffExactRow.holds Try.pinned (OpenSpec.ofChange diffExactWrong)

/-- 'postilionlaw24.DiffMore': WHATEVER THE INPUT: true; the input reads as it did. -/
def diffMoreSpec : ChangeSpec := { name := "diffMore", fn := fun _ => fun
  | [d1, d2, d3, d4] => { results := [.lit (.bool true)], args := [d1, d2, d3, d4] }
  | _ => none }
def diffMoreRow : OpenClaim := { program := "ytfdegdfijjfgbaa", sum := "fa31647c20023a5f130188925bf312c126cd203e4190486a3937b284f8f183ff", func := "postilion/postilionlaw24.DiffMore", spec := "diffMore", unfollowed := true, recurses := true, plainKeys := false, apart := false }
def DiffMoreSaid : Prop := diffMoreRow.holds Try.pinned (OpenSpec.ofChange diffMoreSpec)

/-- ITS FALSE NEIGHBOUR: 'it returns false'. Refute it at one input. -/
def diffMoreWrong : ChangeSpec := { name := "diffMore", fn := fun _ => fun
  | [d1, d2, d3, d4] => { results := [.lit (.bool false)], args := [d1, d2, d3, d4] }
  | _ => none }
def DiffMoreWrongFalsely : Prop := diffMoreRow.holds Try.pinned (OpenSpec.ofChange diffMoreWrong)

/-- 'postilionlaw24.DiffSigns': WHATEVER THE INPUT: true; the input reads as it did. -/
def diffSignsSpec : ChangeSpec := { name := "diffSigns", fn := fun _ => fun
  | [d1, d2] => { results := [.lit (.bool true)], args := [d1, d2] }
  | _ => none }
def diffSignsRow : OpenClaim := { program := "ytfdegdfijjfgbaa", sum := "fa31647c20023a5f130188925bf312c126cd203e4190486a3937b284f8f183ff", func := "postilion/postilionlaw24.DiffSigns", spec := "diffSigns", unfollowed := true, recurses := true, plainKeys := false, apart := false }
def DiffSignsSaid : Prop := diffSignsRow.holds Try.pinned (OpenSpec.ofChange diffSignsSpec)

/-- ITS FALSE NEIGHBOUR: 'it returns false'. Refute it at one input. -/
def diffSignsWrong : ChangeSpec := { name := "diffSigns", fn := fun _ => fun
  | [d1, d2] => { results := [.lit (.bool false)], args := [d1, d2] }
  | _ => none }
def DiffSignsWrongFalsely : Prop := diffSignsRow.holds Try.pinned (OpenSpec.ofChange diffSignsWrong)

/-- 'postilionlaw24.DiffTurned': WHATEVER THE INPUT: true; the input reads as it did. -/
def diffTurnedSpec : ChangeSpec := { name := "diffTurned", fn := fun _ => fun
  | [d1, d2, d3, d4] => { results := [.lit (.bool true)], args := [d1, d2, d3, d4] }
  | _ => none }
def diffTurnedRow : OpenClaim := { program := "ytfdegdfijjfgbaa", sum := "fa31647c20023a5f130188925bf312c126cd203e4190486a3937b284f8f183ff", func := "postilion/postilionlaw24.DiffTurned", spec := "diffTurned", unfollowed := true, recurses := true, plainKeys := false, apart := false }
def DiffTurnedSaid : Prop := diffTurnedRow.holds Try.pinned (OpenSpec.ofChange diffTurnedSpec)

/-- ITS FALSE NEIGHBOUR: 'it returns false'. Refute it at one input. -/
def diffTurnedWrong : ChangeSpec := { name := "diffTurned", fn := fun _ => fun
  | [d1, d2, d3, d4] => { results := [.lit (.bool false)], args := [d1, d2, d3, d4] }
  | _ => none }
def DiffTurnedWrongFalsely : Prop := diffTurnedRow.holds Try.pinned (OpenSpec.ofChange diffTurnedWrong)

/- THE SECOND FORM. 'bulk': how many values and letters a reading holds, each counted each time it is reached (what is shared counts as often as it is met; a slice's spare places count too). A statement '..UptoSaid' is the law's where the arguments, and the package variables that the reading takes, are together of bulk at most 1048576: NARROWER than '..Said'. Prove '..Said' where nothing that the law and all that it calls make is longer than what came in: it says more and counts as full. Else prove '..UptoSaid'. A law counts once. -/
mutual
def uptoBulk {H : Type} : DataW H → Nat
  | .lit (.string bytes) => bytes.length + 1
  | .lit _ => 1
  | .nil => 1
  | .ptr d => uptoBulk d + 1
  | .slice elems spare => uptoBulkAll elems + uptoBulkAll spare + 1
  | .agg parts => uptoBulkAll parts + 1
  | .iface _ d => uptoBulk d + 1
  | .map entries => uptoBulkEntries entries + 1
  | .held _ => 1
def uptoBulkAll {H : Type} : List (DataW H) → Nat
  | [] => 0
  | d :: r => uptoBulk d + uptoBulkAll r
def uptoBulkEntries {H : Type} : List (Lit × DataW H) → Nat
  | [] => 0
  | x :: r => uptoBulkEntry x + uptoBulkEntries r
def uptoBulkEntry {H : Type} : Lit × DataW H → Nat
  | (.string bytes, d) => bytes.length + uptoBulk d + 1
  | (_, d) => uptoBulk d + 1
 end
def uptoSmall : (H : Type) → List (DataW H) → Bool := fun _ ds => decide (uptoBulkAll ds ≤ 1048576)
def OpenSpec.upto (s : _root_.Go.ChangeSpec) : _root_.Go.OpenSpec := { _root_.Go.OpenSpec.ofChange s with cond := some uptoSmall }

/-- 'postilionlaw24.DiffClosure', WHERE WHAT IT READS IS OF BULK AT MOST 1048576: true; the input reads as it did. -/
def diffClosureUptoRow : OpenClaim := { program := "ytfdegdfijjfgbaa", sum := "fa31647c20023a5f130188925bf312c126cd203e4190486a3937b284f8f183ff", func := "postilion/postilionlaw24.DiffClosure", spec := "diffClosure", unfollowed := true, recurses := true, plainKeys := false, apart := false, narrowed := true }
def DiffClosureUptoSaid : Prop := diffClosureUptoRow.holds Try.pinned (OpenSpec.upto diffClosureSpec)

/-- 'postilionlaw24.DiffSolutions', WHERE WHAT IT READS IS OF BULK AT MOST 1048576: true; the input reads as it did. -/
def diffSolutionsUptoRow : OpenClaim := { program := "ytfdegdfijjfgbaa", sum := "fa31647c20023a5f130188925bf312c126cd203e4190486a3937b284f8f183ff", func := "postilion/postilionlaw24.DiffSolutions", spec := "diffSolutions", unfollowed := true, recurses := true, plainKeys := false, apart := false, narrowed := true }
def DiffSolutionsUptoSaid : Prop := diffSolutionsUptoRow.holds Try.pinned (OpenSpec.upto diffSolutionsSpec)

/-- 'postilionlaw24.DiffExact', WHERE WHAT IT READS IS OF BULK AT MOST 1048576: true; the input reads as it did. -/
def diffExactUptoRow : OpenClaim := { program := "ytfdegdfijjfgbaa", sum := "fa31647c20023a5f130188925bf312c126cd203e4190486a3937b284f8f183ff", func := "postilion/postilionlaw24.DiffExact", spec := "diffExact", unfollowed := true, recurses := true, plainKeys := false, apart := false, narrowed := true }
def DiffExactUptoSaid : Prop := diffExactUptoRow.holds Try.pinned (OpenSpec.upto diffExactSpec)

/-- 'postilionlaw24.DiffMore', WHERE WHAT IT READS IS OF BULK AT MOST 1048576: true; the input reads as it did. -/
def diffMoreUptoRow : OpenClaim := { program := "ytfdegdfijjfgbaa", sum := "fa31647c20023a5f130188925bf312c126cd203e4190486a3937b284f8f183ff", func := "postilion/postilionlaw24.DiffMore", spec := "diffMore", unfollowed := true, recurses := true, plainKeys := false, apart := false, narrowed := true }
def DiffMoreUptoSaid : Prop := diffMoreUptoRow.holds Try.pinned (OpenSpec.upto diffMoreSpec)

/-- 'postilionlaw24.DiffSigns', WHERE WHAT IT READS IS OF BULK AT MOST 1048576: true; the input reads as it did. -/
def diffSignsUptoRow : OpenClaim := { program := "ytfdegdfijjfgbaa", sum := "fa31647c20023a5f130188925bf312c126cd203e4190486a3937b284f8f183ff", func := "postilion/postilionlaw24.DiffSigns", spec := "diffSigns", unfollowed := true, recurses := true, plainKeys := false, apart := false, narrowed := true }
def DiffSignsUptoSaid : Prop := diffSignsUptoRow.holds Try.pinned (OpenSpec.upto diffSignsSpec)

/-- 'postilionlaw24.DiffTurned', WHERE WHAT IT READS IS OF BULK AT MOST 1048576: true; the input reads as it did. -/
def diffTurnedUptoRow : OpenClaim := { program := "ytfdegdfijjfgbaa", sum := "fa31647c20023a5f130188925bf312c126cd203e4190486a3937b284f8f183ff", func := "postilion/postilionlaw24.DiffTurned", spec := "diffTurned", unfollowed := true, recurses := true, plainKeys := false, apart := false, narrowed := true }
def DiffTurnedUptoSaid : Prop := diffTurnedUptoRow.holds Try.pinned (OpenSpec.upto diffTurnedSpec)

end Rows
end Go.Proofs.Ytfdegdfijjfgbaa
