/-
  No cell of these rows narrows 'for every input' (looked for: loops, veiled, ifaces, maps, wideKeys, modest, calm, conditions, laid).
  DERIVED. THE GIVEN ROWS OF THIS SEAT. 6 by the template 'for every input the law returns true; each argument reads behind the call as it read before'; 0 by the template 'total and deterministic' (their statements: YtajobinkabdmkaaTotals.lean).
  GIVEN WITH THE SEED: the statements are not yours to turn. If you find one false, say at which input.
  Laid BY PROGRAM, IN A SANDBOX (cutbox-rows.mjs): the forced cells as the released guide's own fill.sh prints them over the translation cc22488b3dfc70ae… (all of the seat's roots in one cut). By AI agents, Wed Nov 11 2026. No macro, syntax, notation, axiom, sorry.
-/
import Derived.Test.YtajobinkabdmkaaChecked
import GoSem.Claim
import GoSem.ClaimJoined
import GoSem.ClaimMapViews
import Derived.JoinedTies
import Derived.KernelRfl
namespace Go.Proofs.Ytajobinkabdmkaa
/- THE CELL 'sum', in the pinned program and in every row, IS THE sha256 OF THE DUMP (.gsa) THAT YtajobinkabdmkaaProg.lean LOADS. Nothing in Lean hashes anything: it is a label: what it is worth is what the hold of that sum in a sandbox is worth. -/
noncomputable def Try.pinned : Pinned := { name := "ytajobinkabdmkaa", sum := "cc22488b3dfc70ae6249446050e70a1ad7c503f8efdf943d3f234d28e18bc83d", checked := Try.checked }
namespace Rows
def none {H : Type} : Left H := { results := [], args := [] }

/-- 'postilionlaw07.ForwardMatchesReference': WHATEVER THE INPUT: true; the input reads as it did. -/
def forwardMatchesReferenceSpec : ChangeSpec := { name := "forwardMatchesReference", fn := fun _ => fun
  | [d1, d2, d3, d4] => { results := [.lit (.bool true)], args := [d1, d2, d3, d4] }
  | _ => none }
def forwardMatchesReferenceRow : OpenClaim := { program := "ytajobinkabdmkaa", sum := "cc22488b3dfc70ae6249446050e70a1ad7c503f8efdf943d3f234d28e18bc83d", func := "postilion/postilionlaw07.ForwardMatchesReference", spec := "forwardMatchesReference", unfollowed := true, recurses := true, plainKeys := false, apart := false }
def ForwardMatchesReferenceSaid : Prop := forwardMatchesReferenceRow.holds Try.pinned (OpenSpec.ofChange forwardMatchesReferenceSpec)

/-- ITS FALSE NEIGHBOUR: 'it returns false'. Refute it at one input. -/
def forwardMatchesReferenceWrong : ChangeSpec := { name := "forwardMatchesReference", fn := fun _ => fun
  | [d1, d2, d3, d4] => { results := [.lit (.bool false)], args := [d1, d2, d3, d4] }
  | _ => none }
def ForwardMatchesReferenceWrongFalsely : Prop := forwardMatchesReferenceRow.holds Try.pinned (OpenSpec.ofChange forwardMatchesReferenceWrong)

/-- 'postilionlaw07.ForwardChains': WHATEVER THE INPUT: true; the input reads as it did. -/
def forwardChainsSpec : ChangeSpec := { name := "forwardChains", fn := fun _ => fun
  | [d1, d2, d3] => { results := [.lit (.bool true)], args := [d1, d2, d3] }
  | _ => none }
def forwardChainsRow : OpenClaim := { program := "ytajobinkabdmkaa", sum := "cc22488b3dfc70ae6249446050e70a1ad7c503f8efdf943d3f234d28e18bc83d", func := "postilion/postilionlaw07.ForwardChains", spec := "forwardChains", unfollowed := true, recurses := true, plainKeys := false, apart := false }
def ForwardChainsSaid : Prop := forwardChainsRow.holds Try.pinned (OpenSpec.ofChange forwardChainsSpec)

/-- ITS FALSE NEIGHBOUR: 'it returns false'. Refute it at one input. -/
def forwardChainsWrong : ChangeSpec := { name := "forwardChains", fn := fun _ => fun
  | [d1, d2, d3] => { results := [.lit (.bool false)], args := [d1, d2, d3] }
  | _ => none }
def ForwardChainsWrongFalsely : Prop := forwardChainsRow.holds Try.pinned (OpenSpec.ofChange forwardChainsWrong)

/-- 'postilionlaw07.ForwardParts': WHATEVER THE INPUT: true; the input reads as it did. -/
def forwardPartsSpec : ChangeSpec := { name := "forwardParts", fn := fun _ => fun
  | [d1, d2, d3, d4, d5] => { results := [.lit (.bool true)], args := [d1, d2, d3, d4, d5] }
  | _ => none }
def forwardPartsRow : OpenClaim := { program := "ytajobinkabdmkaa", sum := "cc22488b3dfc70ae6249446050e70a1ad7c503f8efdf943d3f234d28e18bc83d", func := "postilion/postilionlaw07.ForwardParts", spec := "forwardParts", unfollowed := true, recurses := true, plainKeys := false, apart := false }
def ForwardPartsSaid : Prop := forwardPartsRow.holds Try.pinned (OpenSpec.ofChange forwardPartsSpec)

/-- ITS FALSE NEIGHBOUR: 'it returns false'. Refute it at one input. -/
def forwardPartsWrong : ChangeSpec := { name := "forwardParts", fn := fun _ => fun
  | [d1, d2, d3, d4, d5] => { results := [.lit (.bool false)], args := [d1, d2, d3, d4, d5] }
  | _ => none }
def ForwardPartsWrongFalsely : Prop := forwardPartsRow.holds Try.pinned (OpenSpec.ofChange forwardPartsWrong)

/-- 'postilionlaw07.ForwardDays': WHATEVER THE INPUT: true; the input reads as it did. -/
def forwardDaysSpec : ChangeSpec := { name := "forwardDays", fn := fun _ => fun
  | [d1, d2, d3, d4] => { results := [.lit (.bool true)], args := [d1, d2, d3, d4] }
  | _ => none }
def forwardDaysRow : OpenClaim := { program := "ytajobinkabdmkaa", sum := "cc22488b3dfc70ae6249446050e70a1ad7c503f8efdf943d3f234d28e18bc83d", func := "postilion/postilionlaw07.ForwardDays", spec := "forwardDays", unfollowed := true, recurses := true, plainKeys := false, apart := false }
def ForwardDaysSaid : Prop := forwardDaysRow.holds Try.pinned (OpenSpec.ofChange forwardDaysSpec)

/-- ITS FALSE NEIGHBOUR: 'it returns false'. Refute it at one input. -/
def forwardDaysWrong : ChangeSpec := { name := "forwardDays", fn := fun _ => fun
  | [d1, d2, d3, d4] => { results := [.lit (.bool false)], args := [d1, d2, d3, d4] }
  | _ => none }
def ForwardDaysWrongFalsely : Prop := forwardDaysRow.holds Try.pinned (OpenSpec.ofChange forwardDaysWrong)

/-- 'postilionlaw07.ForwardLoops': WHATEVER THE INPUT: true; the input reads as it did. -/
def forwardLoopsSpec : ChangeSpec := { name := "forwardLoops", fn := fun _ => fun
  | [d1, d2, d3, d4] => { results := [.lit (.bool true)], args := [d1, d2, d3, d4] }
  | _ => none }
def forwardLoopsRow : OpenClaim := { program := "ytajobinkabdmkaa", sum := "cc22488b3dfc70ae6249446050e70a1ad7c503f8efdf943d3f234d28e18bc83d", func := "postilion/postilionlaw07.ForwardLoops", spec := "forwardLoops", unfollowed := true, recurses := true, plainKeys := false, apart := false }
def ForwardLoopsSaid : Prop := forwardLoopsRow.holds Try.pinned (OpenSpec.ofChange forwardLoopsSpec)

/-- ITS FALSE NEIGHBOUR: 'it returns false'. Refute it at one input. -/
def forwardLoopsWrong : ChangeSpec := { name := "forwardLoops", fn := fun _ => fun
  | [d1, d2, d3, d4] => { results := [.lit (.bool false)], args := [d1, d2, d3, d4] }
  | _ => none }
def ForwardLoopsWrongFalsely : Prop := forwardLoopsRow.holds Try.pinned (OpenSpec.ofChange forwardLoopsWrong)

/-- 'postilionlaw07.ForwardReturns': WHATEVER THE INPUT: true; the input reads as it did. -/
def forwardReturnsSpec : ChangeSpec := { name := "forwardReturns", fn := fun _ => fun
  | [d1, d2, d3, d4, d5] => { results := [.lit (.bool true)], args := [d1, d2, d3, d4, d5] }
  | _ => none }
def forwardReturnsRow : OpenClaim := { program := "ytajobinkabdmkaa", sum := "cc22488b3dfc70ae6249446050e70a1ad7c503f8efdf943d3f234d28e18bc83d", func := "postilion/postilionlaw07.ForwardReturns", spec := "forwardReturns", unfollowed := true, recurses := true, plainKeys := false, apart := false }
def ForwardReturnsSaid : Prop := forwardReturnsRow.holds Try.pinned (OpenSpec.ofChange forwardReturnsSpec)

/-- ITS FALSE NEIGHBOUR: 'it returns false'. Refute it at one input. -/
def forwardReturnsWrong : ChangeSpec := { name := "forwardReturns", fn := fun _ => fun
  | [d1, d2, d3, d4, d5] => { results := [.lit (.bool false)], args := [d1, d2, d3, d4, d5] }
  | _ => none }
def ForwardReturnsWrongFalsely : Prop := forwardReturnsRow.holds Try.pinned (OpenSpec.ofChange forwardReturnsWrong)

/- THE SECOND FORM. 'bulk': how many values and letters a reading holds, each counted each time it is reached (what is shared counts as often as it is met; a slice's spare places count too). A statement '..UptoSaid' is the law's where the arguments, and the package variables that the reading takes, are together of bulk at most 1048576: NARROWER than '..Said'. Prove '..Said' where nothing that the law and all that it calls make is longer than what came in: it says more and counts as full. Else prove '..UptoSaid'. A law counts once. -/
mutual
def uptoBulk {H : Type} : DataW H → Nat
  | .lit (.string bytes) => bytes.length + 1
  | .lit _ => 1
  | .nil => 1
  | .ptr d => uptoBulk d + 1
  | .slice elems spare => uptoBulkAll elems + uptoBulkAll spare + 1
  | .agg parts => uptoBulkAll parts + 1
  | .iface _ d => uptoBulk d + 1
  | .map entries => uptoBulkEntries entries + 1
  | .held _ => 1
def uptoBulkAll {H : Type} : List (DataW H) → Nat
  | [] => 0
  | d :: r => uptoBulk d + uptoBulkAll r
def uptoBulkEntries {H : Type} : List (Lit × DataW H) → Nat
  | [] => 0
  | x :: r => uptoBulkEntry x + uptoBulkEntries r
def uptoBulkEntry {H : Type} : Lit × DataW H → Nat
  | (.string bytes, d) => bytes.length + uptoBulk d + 1
  | (_, d) => uptoBulk d + 1
 end
def uptoSmall : (H : Type) → List (DataW H) → Bool := fun _ ds => decide (uptoBulkAll ds ≤ 1048576)
def OpenSpec.upto (s : _root_.Go.ChangeSpec) : _root_.Go.OpenSpec := { _root_.Go.OpenSpec.ofChange s with cond := some uptoSmall }

/-- 'postilionlaw07.ForwardMatchesReference', WHERE WHAT IT READS IS OF BULK AT MOST 1048576: true; the input reads as it did. -/
def forwardMatchesReferenceUptoRow : OpenClaim := { program := "ytajobinkabdmkaa", sum := "cc22488b3dfc70ae6249446050e70a1ad7c503f8efdf943d3f234d28e18bc83d", func := "postilion/postilionlaw07.ForwardMatchesReference", spec := "forwardMatchesReference", unfollowed := true, recurses := true, plainKeys := false, apart := false, narrowed := true }
def ForwardMatchesReferenceUptoSaid : Prop := forwardMatchesReferenceUptoRow.holds Try.pinned (OpenSpec.upto forwardMatchesReferenceSpec)

/-- 'postilionlaw07.ForwardChains', WHERE WHAT IT READS IS OF BULK AT MOST 1048576: true; the input reads as it did. -/
def forwardChainsUptoRow : OpenClaim := { program := "ytajobinkabdmkaa", sum := "cc22488b3dfc70ae6249446050e70a1ad7c503f8efdf943d3f234d28e18bc83d", func := "postilion/postilionlaw07.ForwardChains", spec := "forwardChains", unfollowed := true, recurses := true, plainKeys := false, apart := false, narrowed := true }
def ForwardChainsUptoSaid : Prop := forwardChainsUptoRow.holds Try.pinned (OpenSpec.upto forwardChainsSpec)

/-- 'postilionlaw07.ForwardParts', WHERE WHAT IT READS IS OF BULK AT MOST 1048576: true; the input reads as it did. -/
def forwardPartsUptoRow : OpenClaim := { program := "ytajobinkabdmkaa", sum := "cc22488b3dfc70ae6249446050e70a1ad7c503f8efdf943d3f234d28e18bc83d", func := "postilion/postilionlaw07.ForwardParts", spec := "forwardParts", unfollowed := true, recurses := true, plainKeys := false, apart := false, narrowed := true }
def ForwardPartsUptoSaid : Prop := forwardPartsUptoRow.holds Try.pinned (OpenSpec.upto forwardPartsSpec)

/-- 'postilionlaw07.ForwardDays', WHERE WHAT IT READS IS OF BULK AT MOST 1048576: true; the input reads as it did. -/
def forwardDaysUptoRow : OpenClaim := { program := "ytajobinkabdmkaa", sum := "cc22488b3dfc70ae6249446050e70a1ad7c503f8efdf943d3f234d28e18bc83d", func := "postilion/postilionlaw07.ForwardDays", spec := "forwardDays", unfollowed := true, recurses := true, plainKeys := false, apart := false, narrowed := true }
def ForwardDaysUptoSaid : Prop := forwardDaysUptoRow.holds Try.pinned (OpenSpec.upto forwardDaysSpec)

/-- 'postilionlaw07.ForwardLoops', WHERE WHAT IT READS IS OF BULK AT MOST 1048576: true; the input reads as it did. -/
def forwardLoopsUptoRow : OpenClaim := { program := "ytajobinkabdmkaa", sum := "cc22488b3dfc70ae6249446050e70a1ad7c503f8efdf943d3f234d28e18bc83d", func := "postilion/postilionlaw07.ForwardLoops", spec := "forwardLoops", unfollowed := true, recurses := true, plainKeys := false, apart := false, narrowed := true }
def ForwardLoopsUptoSaid : Prop := forwardLoopsUptoRow.holds Try.pinned (OpenSpec.upto forwardLoopsSpec)

/-- 'postilionlaw07.ForwardReturns', WHERE WHAT IT READS IS OF BULK AT MOST 1048576: true; the input reads as it did. -/
def forwardReturnsUptoRow : OpenClaim := { program := "ytajobinkabdmkaa", sum := "cc22488b3dfc70ae6249446050e70a1ad7c503f8efdf943d3f234d28e18bc83d", func := "postilion/postilionlaw07.ForwardReturns", spec := "forwardReturns", unfollowed := true, recurses := true, plainKeys := false, apart := false, narrowed := true }
def ForwardReturnsUptoSaid : Prop := forwardReturnsUptoRow.holds Try.pinned (OpenSpec.upto forwardReturnsSpec)

end Rows
end Go.Proofs.Ytajobinkabdmkaa
