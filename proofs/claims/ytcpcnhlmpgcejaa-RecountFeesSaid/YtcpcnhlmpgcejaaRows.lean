/-
  No cell of these rows narrows 'for every input' (looked for: loops, veiled, ifaces, maps, wideKeys, modest, calm, conditions, laid).
  DERIVED. THE GIVEN ROWS OF THIS SEAT. 6 by the template 'for every input the law returns true; each argument reads behind the call as it read before'; 0 by the template 'total and deterministic' (their statements: YtcpcnhlmpgcejaaTotals.lean).
  GIVEN WITH THE SEED: the statements are not yours to turn. If you find one false, say at which input.
  Laid BY PROGRAM, IN A SANDBOX (cutbox-rows.mjs): the forced cells as the released guide's own fill.sh prints them over the translation 25217e95f69ebb29… (all of the seat's roots in one cut). By AI agents, Wed Nov 11 2026. No macro, syntax, notation, axiom, sorry.
-/
import Derived.Test.YtcpcnhlmpgcejaaChecked
import GoSem.Claim
import GoSem.ClaimJoined
import GoSem.ClaimMapViews
import Derived.JoinedTies
import Derived.KernelRfl
namespace Go.Proofs.Ytcpcnhlmpgcejaa
/- THE CELL 'sum', in the pinned program and in every row, IS THE sha256 OF THE DUMP (.gsa) THAT YtcpcnhlmpgcejaaProg.lean LOADS. Nothing in Lean hashes anything: it is a label: what it is worth is what the hold of that sum in a sandbox is worth. -/
noncomputable def Try.pinned : Pinned := { name := "ytcpcnhlmpgcejaa", sum := "25217e95f69ebb2941e9d5ff851c9b253413106bac6b4fa04d359e04b6816874", checked := Try.checked }
namespace Rows
def none {H : Type} : Left H := { results := [], args := [] }

/-- 'postilionlaw37.RecountMatchesReference': WHATEVER THE INPUT: true; the input reads as it did. -/
def recountMatchesReferenceSpec : ChangeSpec := { name := "recountMatchesReference", fn := fun _ => fun
  | [d1, d2, d3, d4, d5, d6] => { results := [.lit (.bool true)], args := [d1, d2, d3, d4, d5, d6] }
  | _ => none }
def recountMatchesReferenceRow : OpenClaim := { program := "ytcpcnhlmpgcejaa", sum := "25217e95f69ebb2941e9d5ff851c9b253413106bac6b4fa04d359e04b6816874", func := "postilion/postilionlaw37.RecountMatchesReference", spec := "recountMatchesReference", unfollowed := true, recurses := true, apart := false }
def RecountMatchesReferenceSaid : Prop := recountMatchesReferenceRow.holds Try.pinned (OpenSpec.ofChange recountMatchesReferenceSpec)

/-- ITS FALSE NEIGHBOUR: 'it returns false'. Refute it at one input. -/
def recountMatchesReferenceWrong : ChangeSpec := { name := "recountMatchesReference", fn := fun _ => fun
  | [d1, d2, d3, d4, d5, d6] => { results := [.lit (.bool false)], args := [d1, d2, d3, d4, d5, d6] }
  | _ => none }
def RecountMatchesReferenceWrongFalsely : Prop := recountMatchesReferenceRow.holds Try.pinned (OpenSpec.ofChange recountMatchesReferenceWrong)

/-- 'postilionlaw37.RecountAgreement': WHATEVER THE INPUT: true; the input reads as it did. -/
def recountAgreementSpec : ChangeSpec := { name := "recountAgreement", fn := fun _ => fun
  | [d1, d2, d3, d4, d5] => { results := [.lit (.bool true)], args := [d1, d2, d3, d4, d5] }
  | _ => none }
def recountAgreementRow : OpenClaim := { program := "ytcpcnhlmpgcejaa", sum := "25217e95f69ebb2941e9d5ff851c9b253413106bac6b4fa04d359e04b6816874", func := "postilion/postilionlaw37.RecountAgreement", spec := "recountAgreement", unfollowed := true, recurses := true, apart := false }
def RecountAgreementSaid : Prop := recountAgreementRow.holds Try.pinned (OpenSpec.ofChange recountAgreementSpec)

/-- ITS FALSE NEIGHBOUR: 'it returns false'. Refute it at one input. -/
def recountAgreementWrong : ChangeSpec := { name := "recountAgreement", fn := fun _ => fun
  | [d1, d2, d3, d4, d5] => { results := [.lit (.bool false)], args := [d1, d2, d3, d4, d5] }
  | _ => none }
def RecountAgreementWrongFalsely : Prop := recountAgreementRow.holds Try.pinned (OpenSpec.ofChange recountAgreementWrong)

/-- 'postilionlaw37.RecountTruth': WHATEVER THE INPUT: true; the input reads as it did. -/
def recountTruthSpec : ChangeSpec := { name := "recountTruth", fn := fun _ => fun
  | [d1, d2, d3, d4] => { results := [.lit (.bool true)], args := [d1, d2, d3, d4] }
  | _ => none }
def recountTruthRow : OpenClaim := { program := "ytcpcnhlmpgcejaa", sum := "25217e95f69ebb2941e9d5ff851c9b253413106bac6b4fa04d359e04b6816874", func := "postilion/postilionlaw37.RecountTruth", spec := "recountTruth", unfollowed := true, recurses := true, apart := false }
def RecountTruthSaid : Prop := recountTruthRow.holds Try.pinned (OpenSpec.ofChange recountTruthSpec)

/-- ITS FALSE NEIGHBOUR: 'it returns false'. Refute it at one input. -/
def recountTruthWrong : ChangeSpec := { name := "recountTruth", fn := fun _ => fun
  | [d1, d2, d3, d4] => { results := [.lit (.bool false)], args := [d1, d2, d3, d4] }
  | _ => none }
def RecountTruthWrongFalsely : Prop := recountTruthRow.holds Try.pinned (OpenSpec.ofChange recountTruthWrong)

/-- 'postilionlaw37.RecountExchange': WHATEVER THE INPUT: true; the input reads as it did. -/
def recountExchangeSpec : ChangeSpec := { name := "recountExchange", fn := fun _ => fun
  | [d1, d2, d3, d4] => { results := [.lit (.bool true)], args := [d1, d2, d3, d4] }
  | _ => none }
def recountExchangeRow : OpenClaim := { program := "ytcpcnhlmpgcejaa", sum := "25217e95f69ebb2941e9d5ff851c9b253413106bac6b4fa04d359e04b6816874", func := "postilion/postilionlaw37.RecountExchange", spec := "recountExchange", unfollowed := true, recurses := true, apart := false }
def RecountExchangeSaid : Prop := recountExchangeRow.holds Try.pinned (OpenSpec.ofChange recountExchangeSpec)

/-- ITS FALSE NEIGHBOUR: 'it returns false'. Refute it at one input. -/
def recountExchangeWrong : ChangeSpec := { name := "recountExchange", fn := fun _ => fun
  | [d1, d2, d3, d4] => { results := [.lit (.bool false)], args := [d1, d2, d3, d4] }
  | _ => none }
def RecountExchangeWrongFalsely : Prop := recountExchangeRow.holds Try.pinned (OpenSpec.ofChange recountExchangeWrong)

/-- 'postilionlaw37.RecountFees': WHATEVER THE INPUT: true; the input reads as it did. -/
def recountFeesSpec : ChangeSpec := { name := "recountFees", fn := fun _ => fun
  | [d1, d2] => { results := [.lit (.bool true)], args := [d1, d2] }
  | _ => none }
def recountFeesRow : OpenClaim := { program := "ytcpcnhlmpgcejaa", sum := "25217e95f69ebb2941e9d5ff851c9b253413106bac6b4fa04d359e04b6816874", func := "postilion/postilionlaw37.RecountFees", spec := "recountFees", unfollowed := true, recurses := true, apart := false }
def RecountFeesSaid : Prop := recountFeesRow.holds Try.pinned (OpenSpec.ofChange recountFeesSpec)

/-- ITS FALSE NEIGHBOUR: 'it returns false'. Refute it at one input. -/
def recountFeesWrong : ChangeSpec := { name := "recountFees", fn := fun _ => fun
  | [d1, d2] => { results := [.lit (.bool false)], args := [d1, d2] }
  | _ => none }
def RecountFeesWrongFalsely : Prop := recountFeesRow.holds Try.pinned (OpenSpec.ofChange recountFeesWrong)

/-- 'postilionlaw37.RecountTolerance': WHATEVER THE INPUT: true; the input reads as it did. -/
def recountToleranceSpec : ChangeSpec := { name := "recountTolerance", fn := fun _ => fun
  | [d1, d2, d3, d4, d5] => { results := [.lit (.bool true)], args := [d1, d2, d3, d4, d5] }
  | _ => none }
def recountToleranceRow : OpenClaim := { program := "ytcpcnhlmpgcejaa", sum := "25217e95f69ebb2941e9d5ff851c9b253413106bac6b4fa04d359e04b6816874", func := "postilion/postilionlaw37.RecountTolerance", spec := "recountTolerance", unfollowed := true, recurses := true, apart := false }
def RecountToleranceSaid : Prop := recountToleranceRow.holds Try.pinned (OpenSpec.ofChange recountToleranceSpec)

/-- ITS FALSE NEIGHBOUR: 'it returns false'. Refute it at one input. -/
def recountToleranceWrong : ChangeSpec := { name := "recountTolerance", fn := fun _ => fun
  | [d1, d2, d3, d4, d5] => { results := [.lit (.bool false)], args := [d1, d2, d3, d4, d5] }
  | _ => none }
def RecountToleranceWrongFalsely : Prop := recountToleranceRow.holds Try.pinned (OpenSpec.ofChange recountToleranceWrong)

/- THE SECOND FORM. 'bulk': how many values and letters a reading holds, each counted each time it is reached (what is shared counts as often as it is met; a slice's spare places count too). A statement '..UptoSaid' is the law's where the arguments, and the package variables that the reading takes, are together of bulk at most 1048576: NARROWER than '..Said'. Prove '..Said' where nothing that the law and all that it calls make is longer than what came in: it says more and counts as full. Else prove '..UptoSaid'. A law counts once. -/
mutual
def uptoBulk {H : Type} : DataW H → Nat
  | .lit (.string bytes) => bytes.length + 1
  | .lit _ => 1
  | .nil => 1
  | .ptr d => uptoBulk d + 1
  | .slice elems spare => uptoBulkAll elems + uptoBulkAll spare + 1
  | .agg parts => uptoBulkAll parts + 1
  | .iface _ d => uptoBulk d + 1
  | .map entries => uptoBulkEntries entries + 1
  | .held _ => 1
def uptoBulkAll {H : Type} : List (DataW H) → Nat
  | [] => 0
  | d :: r => uptoBulk d + uptoBulkAll r
def uptoBulkEntries {H : Type} : List (Lit × DataW H) → Nat
  | [] => 0
  | x :: r => uptoBulkEntry x + uptoBulkEntries r
def uptoBulkEntry {H : Type} : Lit × DataW H → Nat
  | (.string bytes, d) => bytes.length + uptoBulk d + 1
  | (_, d) => uptoBulk d + 1
 end
def uptoSmall : (H : Type) → List (DataW H) → Bool := fun _ ds => decide (uptoBulkAll ds ≤ 1048576)
def OpenSpec.upto (s : _root_.Go.ChangeSpec) : _root_.Go.OpenSpec := { _root_.Go.OpenSpec.ofChange s with cond := some uptoSmall }

/-- 'postilionlaw37.RecountMatchesReference', WHERE WHAT IT READS IS OF BULK AT MOST 1048576: true; the input reads as it did. -/
def recountMatchesReferenceUptoRow : OpenClaim := { program := "ytcpcnhlmpgcejaa", sum := "25217e95f69ebb2941e9d5ff851c9b253413106bac6b4fa04d359e04b6816874", func := "postilion/postilionlaw37.RecountMatchesReference", spec := "recountMatchesReference", unfollowed := true, recurses := true, apart := false, narrowed := true }
def RecountMatchesReferenceUptoSaid : Prop := recountMatchesReferenceUptoRow.holds Try.pinned (OpenSpec.upto recountMatchesReferenceSpec)

/-- 'postilionlaw37.RecountAgreement', WHERE WHAT IT READS IS OF BULK AT MOST 1048576: true; the input reads as it did. -/
def recountAgreementUptoRow : OpenClaim := { program := "ytcpcnhlmpgcejaa", sum := "25217e95f69ebb2941e9d5ff851c9b253413106bac6b4fa04d359e04b6816874", func := "postilion/postilionlaw37.RecountAgreement", spec := "recountAgreement", unfollowed := true, recurses := true, apart := false, narrowed := true }
def RecountAgreementUptoSaid : Prop := recountAgreementUptoRow.holds Try.pinned (OpenSpec.upto recountAgreementSpec)

/-- 'postilionlaw37.RecountTruth', WHERE WHAT IT READS IS OF BULK AT MOST 1048576: true; the input reads as it did. -/
def recountTruthUptoRow : OpenClaim := { program := "ytcpcnhlmpgcejaa", sum := "25217e95f69ebb2941e9d5ff851c9b253413106bac6b4fa04d359e04b6816874", func := "postilion/postilionlaw37.RecountTruth", spec := "recountTruth", unfollowed := true, recurses := true, apart := false, narrowed := true }
def RecountTruthUptoSaid : Prop := recountTruthUptoRow.holds Try.pinned (OpenSpec.upto recountTruthSpec)

/-- 'postilionlaw37.RecountExchange', WHERE WHAT IT READS IS OF BULK AT MOST 1048576: true; the input reads as it did. -/
def recountExchangeUptoRow : OpenClaim := { program := "ytcpcnhlmpgcejaa", sum := "25217e95f69ebb2941e9d5ff851c9b253413106bac6b4fa04d359e04b6816874", func := "postilion/postilionlaw37.RecountExchange", spec := "recountExchange", unfollowed := true, recurses := true, apart := false, narrowed := true }
def RecountExchangeUptoSaid : Prop := recountExchangeUptoRow.holds Try.pinned (OpenSpec.upto recountExchangeSpec)

/-- 'postilionlaw37.RecountFees', WHERE WHAT IT READS IS OF BULK AT MOST 1048576: true; the input reads as it did. -/
def recountFeesUptoRow : OpenClaim := { program := "ytcpcnhlmpgcejaa", sum := "25217e95f69ebb2941e9d5ff851c9b253413106bac6b4fa04d359e04b6816874", func := "postilion/postilionlaw37.RecountFees", spec := "recountFees", unfollowed := true, recurses := true, apart := false, narrowed := true }
def RecountFeesUptoSaid : Prop := recountFeesUptoRow.holds Try.pinned (OpenSpec.upto recountFeesSpec)

/-- 'postilionlaw37.RecountTolerance', WHERE WHAT IT READS IS OF BULK AT MOST 1048576: true; the input reads as it did. -/
def recountToleranceUptoRow : OpenClaim := { program := "ytcpcnhlmpgcejaa", sum := "25217e95f69ebb2941e9d5ff851c9b253413106bac6b4fa04d359e04b6816874", func := "postilion/postilionlaw37.RecountTolerance", spec := "recountTolerance", unfollowed := true, recurses := true, apart := false, narrowed := true }
def RecountToleranceUptoSaid : Prop := recountToleranceUptoRow.holds Try.pinned (OpenSpec.upto recountToleranceSpec)

end Rows
end Go.Proofs.Ytcpcnhlmpgcejaa
