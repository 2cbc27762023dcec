/-
  DERIVED. GIVEN WITH THE SEED: THE CARDS: each row of YthkmpegpmpdhaaaGreatDoorRows.lean that lists a variable, with what it lists TIED to the program's text (the seventh form; the later family's looks); each row that meets fmt, with fmt's text TOLD by the authors' own Lean function (tested against real Go, not proved from fmt's source: count such statements apart). THE CARD IS WHAT COUNTS. Prove the row's statement (the work); the ties are given (YthkmpegpmpdhaaaGreatDoorTie.lean); close each card by the builder's one call (the guide's Derived/Test/ToyasCard.lean, 'card_holds'). Laid BY PROGRAM, IN A SANDBOX (cutbox-door.mjs). By AI agents, Wed Nov 11 2026. No macro, syntax, notation, axiom, sorry.
-/
import Derived.Test.YthkmpegpmpdhaaaGreatDoorRows
import GoSem.ClaimSeven
namespace Go.Proofs.YthkmpegpmpdhaaaGreatDoor
namespace Rows

/-- THE TIED CARD OF 'postiliontop.TopOwnItem'. -/
def topOwnItemCard : Claim7 := { stood := { row := topOwnItemRow, standIns := [], harness := (true, "ac5bbac186e3de25d81f09017ef6b03bb7eaf2c73abc319d8536ddd89386eef1"), looks := false }, kinds := [], alts := [], laidByText := true, laidKinds := [.data, .data, .data], laidTests := true, laidLooks := .later }
def TopOwnItemCardSaid : Prop := Claim7.holds Tryz.pinned (.plain (OpenSpec.ofChange topOwnItemSpec)) topOwnItemCard

/-- THE TIED CARD OF 'postiliontop.TopForged'. -/
def topForgedCard : Claim7 := { stood := { row := topForgedRow, standIns := [], harness := (true, "ac5bbac186e3de25d81f09017ef6b03bb7eaf2c73abc319d8536ddd89386eef1"), looks := false }, kinds := [], alts := [], laidByText := true, laidKinds := [.data, .data, .data, .data], laidTests := true, laidLooks := .later }
def TopForgedCardSaid : Prop := Claim7.holds Tryz.pinned (.plain (OpenSpec.ofChange topForgedSpec)) topForgedCard

/-- THE SECOND FORM's CARD OF 'postiliontop.TopOwnItem'. -/
def topOwnItemUptoCard : Claim7 := { stood := { row := topOwnItemUptoRow, standIns := [], harness := (true, "ac5bbac186e3de25d81f09017ef6b03bb7eaf2c73abc319d8536ddd89386eef1"), looks := false }, kinds := [], alts := [], laidByText := true, laidKinds := [.data, .data, .data], laidTests := true, laidLooks := .later }
def TopOwnItemUptoCardSaid : Prop := Claim7.holds Tryz.pinned (.plain (OpenSpec.upto topOwnItemSpec)) topOwnItemUptoCard

/-- THE SECOND FORM's CARD OF 'postiliontop.TopForged'. -/
def topForgedUptoCard : Claim7 := { stood := { row := topForgedUptoRow, standIns := [], harness := (true, "ac5bbac186e3de25d81f09017ef6b03bb7eaf2c73abc319d8536ddd89386eef1"), looks := false }, kinds := [], alts := [], laidByText := true, laidKinds := [.data, .data, .data, .data], laidTests := true, laidLooks := .later }
def TopForgedUptoCardSaid : Prop := Claim7.holds Tryz.pinned (.plain (OpenSpec.upto topForgedSpec)) topForgedUptoCard
end Rows
end Go.Proofs.YthkmpegpmpdhaaaGreatDoor
