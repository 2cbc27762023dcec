/-
  No cell of these rows narrows 'for every input' (looked for: loops, veiled, ifaces, maps, wideKeys, modest, calm, conditions, laid).
  DERIVED. THE GIVEN ROWS OF THIS SEAT. 8 by the template 'for every input the law returns true; each argument reads behind the call as it read before'; 0 by the template 'total and deterministic' (their statements: YtkfcebojfnnieaaTotals.lean).
  GIVEN WITH THE SEED: the statements are not yours to turn. If you find one false, say at which input.
  Laid BY PROGRAM, IN A SANDBOX (cutbox-rows.mjs): the forced cells as the released guide's own fill.sh prints them over the translation 502e0638433ccc30… (all of the seat's roots in one cut). By AI agents, Wed Nov 11 2026. No macro, syntax, notation, axiom, sorry.
-/
import Derived.Test.YtkfcebojfnnieaaChecked
import GoSem.Claim
import GoSem.ClaimJoined
import GoSem.ClaimMapViews
import Derived.JoinedTies
import Derived.KernelRfl
namespace Go.Proofs.Ytkfcebojfnnieaa
/- THE CELL 'sum', in the pinned program and in every row, IS THE sha256 OF THE DUMP (.gsa) THAT YtkfcebojfnnieaaProg.lean LOADS. Nothing in Lean hashes anything: it is a label: what it is worth is what the hold of that sum in a sandbox is worth. -/
noncomputable def Try.pinned : Pinned := { name := "ytkfcebojfnnieaa", sum := "502e0638433ccc303fc46e1c79d2ed639b8c5d5322dd85803e16a5b4ad35079b", checked := Try.checked }
namespace Rows
def none {H : Type} : Left H := { results := [], args := [] }

/-- 'postilionlaw14.SortingMatchesReference': WHATEVER THE INPUT: true; the input reads as it did. -/
def sortingMatchesReferenceSpec : ChangeSpec := { name := "sortingMatchesReference", fn := fun _ => fun
  | [d1, d2, d3, d4, d5, d6, d7] => { results := [.lit (.bool true)], args := [d1, d2, d3, d4, d5, d6, d7] }
  | _ => none }
def sortingMatchesReferenceRow : OpenClaim := { program := "ytkfcebojfnnieaa", sum := "502e0638433ccc303fc46e1c79d2ed639b8c5d5322dd85803e16a5b4ad35079b", func := "postilion/postilionlaw14.SortingMatchesReference", spec := "sortingMatchesReference", unfollowed := true, recurses := true, apart := false }
def SortingMatchesReferenceSaid : Prop := sortingMatchesReferenceRow.holds Try.pinned (OpenSpec.ofChange sortingMatchesReferenceSpec)

/-- ITS FALSE NEIGHBOUR: 'it returns false'. Refute it at one input. -/
def sortingMatchesReferenceWrong : ChangeSpec := { name := "sortingMatchesReference", fn := fun _ => fun
  | [d1, d2, d3, d4, d5, d6, d7] => { results := [.lit (.bool false)], args := [d1, d2, d3, d4, d5, d6, d7] }
  | _ => none }
def SortingMatchesReferenceWrongFalsely : Prop := sortingMatchesReferenceRow.holds Try.pinned (OpenSpec.ofChange sortingMatchesReferenceWrong)

/-- 'postilionlaw14.SortingPasses': WHATEVER THE INPUT: true; the input reads as it did. -/
def sortingPassesSpec : ChangeSpec := { name := "sortingPasses", fn := fun _ => fun
  | [d1, d2, d3] => { results := [.lit (.bool true)], args := [d1, d2, d3] }
  | _ => none }
def sortingPassesRow : OpenClaim := { program := "ytkfcebojfnnieaa", sum := "502e0638433ccc303fc46e1c79d2ed639b8c5d5322dd85803e16a5b4ad35079b", func := "postilion/postilionlaw14.SortingPasses", spec := "sortingPasses", unfollowed := true, recurses := true, apart := false }
def SortingPassesSaid : Prop := sortingPassesRow.holds Try.pinned (OpenSpec.ofChange sortingPassesSpec)

/-- ITS FALSE NEIGHBOUR: 'it returns false'. Refute it at one input. -/
def sortingPassesWrong : ChangeSpec := { name := "sortingPasses", fn := fun _ => fun
  | [d1, d2, d3] => { results := [.lit (.bool false)], args := [d1, d2, d3] }
  | _ => none }
def SortingPassesWrongFalsely : Prop := sortingPassesRow.holds Try.pinned (OpenSpec.ofChange sortingPassesWrong)

/-- 'postilionlaw14.SortingSorts': WHATEVER THE INPUT: true; the input reads as it did. -/
def sortingSortsSpec : ChangeSpec := { name := "sortingSorts", fn := fun _ => fun
  | [d1, d2, d3, d4] => { results := [.lit (.bool true)], args := [d1, d2, d3, d4] }
  | _ => none }
def sortingSortsRow : OpenClaim := { program := "ytkfcebojfnnieaa", sum := "502e0638433ccc303fc46e1c79d2ed639b8c5d5322dd85803e16a5b4ad35079b", func := "postilion/postilionlaw14.SortingSorts", spec := "sortingSorts", unfollowed := true, recurses := true, apart := false }
def SortingSortsSaid : Prop := sortingSortsRow.holds Try.pinned (OpenSpec.ofChange sortingSortsSpec)

/-- ITS FALSE NEIGHBOUR: 'it returns false'. Refute it at one input. -/
def sortingSortsWrong : ChangeSpec := { name := "sortingSorts", fn := fun _ => fun
  | [d1, d2, d3, d4] => { results := [.lit (.bool false)], args := [d1, d2, d3, d4] }
  | _ => none }
def SortingSortsWrongFalsely : Prop := sortingSortsRow.holds Try.pinned (OpenSpec.ofChange sortingSortsWrong)

/-- 'postilionlaw14.SortingEnough': WHATEVER THE INPUT: true; the input reads as it did. -/
def sortingEnoughSpec : ChangeSpec := { name := "sortingEnough", fn := fun _ => fun
  | [d1, d2] => { results := [.lit (.bool true)], args := [d1, d2] }
  | _ => none }
def sortingEnoughRow : OpenClaim := { program := "ytkfcebojfnnieaa", sum := "502e0638433ccc303fc46e1c79d2ed639b8c5d5322dd85803e16a5b4ad35079b", func := "postilion/postilionlaw14.SortingEnough", spec := "sortingEnough", unfollowed := true, recurses := true, apart := false }
def SortingEnoughSaid : Prop := sortingEnoughRow.holds Try.pinned (OpenSpec.ofChange sortingEnoughSpec)

/-- ITS FALSE NEIGHBOUR: 'it returns false'. Refute it at one input. -/
def sortingEnoughWrong : ChangeSpec := { name := "sortingEnough", fn := fun _ => fun
  | [d1, d2] => { results := [.lit (.bool false)], args := [d1, d2] }
  | _ => none }
def SortingEnoughWrongFalsely : Prop := sortingEnoughRow.holds Try.pinned (OpenSpec.ofChange sortingEnoughWrong)

/-- 'postilionlaw14.SortingSchemes': WHATEVER THE INPUT: true; the input reads as it did. -/
def sortingSchemesSpec : ChangeSpec := { name := "sortingSchemes", fn := fun _ => fun
  | [d1, d2, d3, d4, d5] => { results := [.lit (.bool true)], args := [d1, d2, d3, d4, d5] }
  | _ => none }
def sortingSchemesRow : OpenClaim := { program := "ytkfcebojfnnieaa", sum := "502e0638433ccc303fc46e1c79d2ed639b8c5d5322dd85803e16a5b4ad35079b", func := "postilion/postilionlaw14.SortingSchemes", spec := "sortingSchemes", unfollowed := true, recurses := true, apart := false }
def SortingSchemesSaid : Prop := sortingSchemesRow.holds Try.pinned (OpenSpec.ofChange sortingSchemesSpec)

/-- ITS FALSE NEIGHBOUR: 'it returns false'. Refute it at one input. -/
def sortingSchemesWrong : ChangeSpec := { name := "sortingSchemes", fn := fun _ => fun
  | [d1, d2, d3, d4, d5] => { results := [.lit (.bool false)], args := [d1, d2, d3, d4, d5] }
  | _ => none }
def SortingSchemesWrongFalsely : Prop := sortingSchemesRow.holds Try.pinned (OpenSpec.ofChange sortingSchemesWrong)

/-- 'postilionlaw14.SortingNecessary': WHATEVER THE INPUT: true; the input reads as it did. -/
def sortingNecessarySpec : ChangeSpec := { name := "sortingNecessary", fn := fun _ => fun
  | [d1, d2, d3] => { results := [.lit (.bool true)], args := [d1, d2, d3] }
  | _ => none }
def sortingNecessaryRow : OpenClaim := { program := "ytkfcebojfnnieaa", sum := "502e0638433ccc303fc46e1c79d2ed639b8c5d5322dd85803e16a5b4ad35079b", func := "postilion/postilionlaw14.SortingNecessary", spec := "sortingNecessary", unfollowed := true, recurses := true, apart := false }
def SortingNecessarySaid : Prop := sortingNecessaryRow.holds Try.pinned (OpenSpec.ofChange sortingNecessarySpec)

/-- ITS FALSE NEIGHBOUR: 'it returns false'. Refute it at one input. -/
def sortingNecessaryWrong : ChangeSpec := { name := "sortingNecessary", fn := fun _ => fun
  | [d1, d2, d3] => { results := [.lit (.bool false)], args := [d1, d2, d3] }
  | _ => none }
def SortingNecessaryWrongFalsely : Prop := sortingNecessaryRow.holds Try.pinned (OpenSpec.ofChange sortingNecessaryWrong)

/-- 'postilionlaw14.SortingParts': WHATEVER THE INPUT: true; the input reads as it did. -/
def sortingPartsSpec : ChangeSpec := { name := "sortingParts", fn := fun _ => fun
  | [d1, d2, d3, d4] => { results := [.lit (.bool true)], args := [d1, d2, d3, d4] }
  | _ => none }
def sortingPartsRow : OpenClaim := { program := "ytkfcebojfnnieaa", sum := "502e0638433ccc303fc46e1c79d2ed639b8c5d5322dd85803e16a5b4ad35079b", func := "postilion/postilionlaw14.SortingParts", spec := "sortingParts", unfollowed := true, recurses := true, apart := false }
def SortingPartsSaid : Prop := sortingPartsRow.holds Try.pinned (OpenSpec.ofChange sortingPartsSpec)

/-- ITS FALSE NEIGHBOUR: 'it returns false'. Refute it at one input. -/
def sortingPartsWrong : ChangeSpec := { name := "sortingParts", fn := fun _ => fun
  | [d1, d2, d3, d4] => { results := [.lit (.bool false)], args := [d1, d2, d3, d4] }
  | _ => none }
def SortingPartsWrongFalsely : Prop := sortingPartsRow.holds Try.pinned (OpenSpec.ofChange sortingPartsWrong)

/-- 'postilionlaw14.SortingAgain': WHATEVER THE INPUT: true; the input reads as it did. -/
def sortingAgainSpec : ChangeSpec := { name := "sortingAgain", fn := fun _ => fun
  | [d1, d2, d3, d4] => { results := [.lit (.bool true)], args := [d1, d2, d3, d4] }
  | _ => none }
def sortingAgainRow : OpenClaim := { program := "ytkfcebojfnnieaa", sum := "502e0638433ccc303fc46e1c79d2ed639b8c5d5322dd85803e16a5b4ad35079b", func := "postilion/postilionlaw14.SortingAgain", spec := "sortingAgain", unfollowed := true, recurses := true, apart := false }
def SortingAgainSaid : Prop := sortingAgainRow.holds Try.pinned (OpenSpec.ofChange sortingAgainSpec)

/-- ITS FALSE NEIGHBOUR: 'it returns false'. Refute it at one input. -/
def sortingAgainWrong : ChangeSpec := { name := "sortingAgain", fn := fun _ => fun
  | [d1, d2, d3, d4] => { results := [.lit (.bool false)], args := [d1, d2, d3, d4] }
  | _ => none }
def SortingAgainWrongFalsely : Prop := sortingAgainRow.holds Try.pinned (OpenSpec.ofChange sortingAgainWrong)

/- THE SECOND FORM. 'bulk': how many values and letters a reading holds, each counted each time it is reached (what is shared counts as often as it is met; a slice's spare places count too). A statement '..UptoSaid' is the law's where the arguments, and the package variables that the reading takes, are together of bulk at most 1048576: NARROWER than '..Said'. Prove '..Said' where nothing that the law and all that it calls make is longer than what came in: it says more and counts as full. Else prove '..UptoSaid'. A law counts once. -/
mutual
def uptoBulk {H : Type} : DataW H → Nat
  | .lit (.string bytes) => bytes.length + 1
  | .lit _ => 1
  | .nil => 1
  | .ptr d => uptoBulk d + 1
  | .slice elems spare => uptoBulkAll elems + uptoBulkAll spare + 1
  | .agg parts => uptoBulkAll parts + 1
  | .iface _ d => uptoBulk d + 1
  | .map entries => uptoBulkEntries entries + 1
  | .held _ => 1
def uptoBulkAll {H : Type} : List (DataW H) → Nat
  | [] => 0
  | d :: r => uptoBulk d + uptoBulkAll r
def uptoBulkEntries {H : Type} : List (Lit × DataW H) → Nat
  | [] => 0
  | x :: r => uptoBulkEntry x + uptoBulkEntries r
def uptoBulkEntry {H : Type} : Lit × DataW H → Nat
  | (.string bytes, d) => bytes.length + uptoBulk d + 1
  | (_, d) => uptoBulk d + 1
 end
def uptoSmall : (H : Type) → List (DataW H) → Bool := fun _ ds => decide (uptoBulkAll ds ≤ 1048576)
def OpenSpec.upto (s : _root_.Go.ChangeSpec) : _root_.Go.OpenSpec := { _root_.Go.OpenSpec.ofChange s with cond := some uptoSmall }

/-- 'postilionlaw14.SortingMatchesReference', WHERE WHAT IT READS IS OF BULK AT MOST 1048576: true; the input reads as it did. -/
def sortingMatchesReferenceUptoRow : OpenClaim := { program := "ytkfcebojfnnieaa", sum := "502e0638433ccc303fc46e1c79d2ed639b8c5d5322dd85803e16a5b4ad35079b", func := "postilion/postilionlaw14.SortingMatchesReference", spec := "sortingMatchesReference", unfollowed := true, recurses := true, apart := false, narrowed := true }
def SortingMatchesReferenceUptoSaid : Prop := sortingMatchesReferenceUptoRow.holds Try.pinned (OpenSpec.upto sortingMatchesReferenceSpec)

/-- 'postilionlaw14.SortingPasses', WHERE WHAT IT READS IS OF BULK AT MOST 1048576: true; the input reads as it did. -/
def sortingPassesUptoRow : OpenClaim := { program := "ytkfcebojfnnieaa", sum := "502e0638433ccc303fc46e1c79d2ed639b8c5d5322dd85803e16a5b4ad35079b", func := "postilion/postilionlaw14.SortingPasses", spec := "sortingPasses", unfollowed := true, recurses := true, apart := false, narrowed := true }
def SortingPassesUptoSaid : Prop := sortingPassesUptoRow.holds Try.pinned (OpenSpec.upto sortingPassesSpec)

/-- 'postilionlaw14.SortingSorts', WHERE WHAT IT READS IS OF BULK AT MOST 1048576: true; the input reads as it did. -/
def sortingSortsUptoRow : OpenClaim := { program := "ytkfcebojfnnieaa", sum := "502e0638433ccc303fc46e1c79d2ed639b8c5d5322dd85803e16a5b4ad35079b", func := "postilion/postilionlaw14.SortingSorts", spec := "sortingSorts", unfollowed := true, recurses := true, apart := false, narrowed := true }
def SortingSortsUptoSaid : Prop := sortingSortsUptoRow.holds Try.pinned (OpenSpec.upto sortingSortsSpec)

/-- 'postilionlaw14.SortingEnough', WHERE WHAT IT READS IS OF BULK AT MOST 1048576: true; the input reads as it did. -/
def sortingEnoughUptoRow : OpenClaim := { program := "ytkfcebojfnnieaa", sum := "502e0638433ccc303fc46e1c79d2ed639b8c5d5322dd85803e16a5b4ad35079b", func := "postilion/postilionlaw14.SortingEnough", spec := "sortingEnough", unfollowed := true, recurses := true, apart := false, narrowed := true }
def SortingEnoughUptoSaid : Prop := sortingEnoughUptoRow.holds Try.pinned (OpenSpec.upto sortingEnoughSpec)

/-- 'postilionlaw14.SortingSchemes', WHERE WHAT IT READS IS OF BULK AT MOST 1048576: true; the input reads as it did. -/
def sortingSchemesUptoRow : OpenClaim := { program := "ytkfcebojfnnieaa", sum := "502e0638433ccc303fc46e1c79d2ed639b8c5d5322dd85803e16a5b4ad35079b", func := "postilion/postilionlaw14.SortingSchemes", spec := "sortingSchemes", unfollowed := true, recurses := true, apart := false, narrowed := true }
def SortingSchemesUptoSaid : Prop := sortingSchemesUptoRow.holds Try.pinned (OpenSpec.upto sortingSchemesSpec)

/-- 'postilionlaw14.SortingNecessary', WHERE WHAT IT READS IS OF BULK AT MOST 1048576: true; the input reads as it did. -/
def sortingNecessaryUptoRow : OpenClaim := { program := "ytkfcebojfnnieaa", sum := "502e0638433ccc303fc46e1c79d2ed639b8c5d5322dd85803e16a5b4ad35079b", func := "postilion/postilionlaw14.SortingNecessary", spec := "sortingNecessary", unfollowed := true, recurses := true, apart := false, narrowed := true }
def SortingNecessaryUptoSaid : Prop := sortingNecessaryUptoRow.holds Try.pinned (OpenSpec.upto sortingNecessarySpec)

/-- 'postilionlaw14.SortingParts', WHERE WHAT IT READS IS OF BULK AT MOST 1048576: true; the input reads as it did. -/
def sortingPartsUptoRow : OpenClaim := { program := "ytkfcebojfnnieaa", sum := "502e0638433ccc303fc46e1c79d2ed639b8c5d5322dd85803e16a5b4ad35079b", func := "postilion/postilionlaw14.SortingParts", spec := "sortingParts", unfollowed := true, recurses := true, apart := false, narrowed := true }
def SortingPartsUptoSaid : Prop := sortingPartsUptoRow.holds Try.pinned (OpenSpec.upto sortingPartsSpec)

/-- 'postilionlaw14.SortingAgain', WHERE WHAT IT READS IS OF BULK AT MOST 1048576: true; the input reads as it did. -/
def sortingAgainUptoRow : OpenClaim := { program := "ytkfcebojfnnieaa", sum := "502e0638433ccc303fc46e1c79d2ed639b8c5d5322dd85803e16a5b4ad35079b", func := "postilion/postilionlaw14.SortingAgain", spec := "sortingAgain", unfollowed := true, recurses := true, apart := false, narrowed := true }
def SortingAgainUptoSaid : Prop := sortingAgainUptoRow.holds Try.pinned (OpenSpec.upto sortingAgainSpec)

end Rows
end Go.Proofs.Ytkfcebojfnnieaa
