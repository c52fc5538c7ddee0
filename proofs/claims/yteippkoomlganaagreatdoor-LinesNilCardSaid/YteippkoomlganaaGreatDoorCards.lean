/-
  DERIVED. GIVEN WITH THE SEED: THE CARDS: each row of YteippkoomlganaaGreatDoorRows.lean that lists a variable, with what it lists TIED to the program's text (the seventh form; the later family's looks); each row that meets fmt, with fmt's text TOLD by the authors' own Lean function (tested against real Go, not proved from fmt's source: count such statements apart). THE CARD IS WHAT COUNTS. Prove the row's statement (the work); the ties are given (YteippkoomlganaaGreatDoorTie.lean); close each card by the builder's one call (the guide's Derived/Test/ToyasCard.lean, 'card_holds'). Laid BY PROGRAM, IN A SANDBOX (cutbox-door.mjs). By AI agents, Wed Nov 11 2026. No macro, syntax, notation, axiom, sorry.
-/
import Derived.Test.YteippkoomlganaaGreatDoorRows
import GoSem.ClaimSeven
namespace Go.Proofs.YteippkoomlganaaGreatDoor
namespace Rows

/-- THE TIED CARD OF 'thistlelaw24.LinesNil'. -/
def linesNilCard : Claim7 := { stood := { row := linesNilRow, standIns := [], harness := (true, "3a61362b51cb6a87242653ff6d75d485615a5b4ae7252e22802c4f523fc0c9f5"), looks := false }, kinds := [], alts := [], laidByText := true, laidKinds := [.data, .widerDeep, .pinned], laidTests := true, laidLooks := .later }
def LinesNilCardSaid : Prop := Claim7.holds Tryz.pinned (.plain (OpenSpec.ofChange linesNilSpec)) linesNilCard

/-- THE SECOND FORM's CARD OF 'thistlelaw24.LinesNil'. -/
def linesNilUptoCard : Claim7 := { stood := { row := linesNilUptoRow, standIns := [], harness := (true, "3a61362b51cb6a87242653ff6d75d485615a5b4ae7252e22802c4f523fc0c9f5"), looks := false }, kinds := [], alts := [], laidByText := true, laidKinds := [.data, .widerDeep, .pinned], laidTests := true, laidLooks := .later }
def LinesNilUptoCardSaid : Prop := Claim7.holds Tryz.pinned (.plain (OpenSpec.upto linesNilSpec)) linesNilUptoCard
end Rows
end Go.Proofs.YteippkoomlganaaGreatDoor
