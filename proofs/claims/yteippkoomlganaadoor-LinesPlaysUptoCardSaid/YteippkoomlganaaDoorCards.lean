/-
  DERIVED. GIVEN WITH THE SEED: THE CARDS: each row of YteippkoomlganaaDoorRows.lean that lists a variable, with what it lists TIED to the program's text (the seventh form; the later family's looks); each row that meets fmt, with fmt's text TOLD by the authors' own Lean function (tested against real Go, not proved from fmt's source: count such statements apart). THE CARD IS WHAT COUNTS. Prove the row's statement (the work); the ties are given (YteippkoomlganaaDoorTie.lean); close each card by the builder's one call (the guide's Derived/Test/ToyasCard.lean, 'card_holds'). Laid BY PROGRAM, IN A SANDBOX (cutbox-door.mjs). By AI agents, Wed Nov 11 2026. No macro, syntax, notation, axiom, sorry.
-/
import Derived.Test.YteippkoomlganaaDoorRows
import GoSem.ClaimSeven
namespace Go.Proofs.YteippkoomlganaaDoor
namespace Rows

/-- THE TIED CARD OF 'thistlelaw24.LinesSorts'. -/
def linesSortsCard : Claim7 := { stood := { row := linesSortsRow, standIns := [], harness := (true, "bc8b200cd11be2f09f79433c69986489a25a8a9a1351d4e0ea4d13fc7c289fa2"), looks := false }, kinds := [], alts := [], laidByText := true, laidKinds := [.data, .pinned], laidTests := true, laidLooks := .later }
def LinesSortsCardSaid : Prop := Claim7.holds Tryd.pinned (.plain (OpenSpec.ofChange linesSortsSpec)) linesSortsCard

/-- THE TIED CARD OF 'thistlelaw24.LinesWhole'. -/
def linesWholeCard : Claim7 := { stood := { row := linesWholeRow, standIns := [], harness := (true, "bc8b200cd11be2f09f79433c69986489a25a8a9a1351d4e0ea4d13fc7c289fa2"), looks := false }, kinds := [], alts := [], laidByText := true, laidKinds := [.data, .pinned], laidTests := true, laidLooks := .later }
def LinesWholeCardSaid : Prop := Claim7.holds Tryd.pinned (.plain (OpenSpec.ofChange linesWholeSpec)) linesWholeCard

/-- THE TIED CARD OF 'thistlelaw24.LinesThere'. -/
def linesThereCard : Claim7 := { stood := { row := linesThereRow, standIns := [], harness := (true, "bc8b200cd11be2f09f79433c69986489a25a8a9a1351d4e0ea4d13fc7c289fa2"), looks := false }, kinds := [], alts := [], laidByText := true, laidKinds := [.data, .pinned], laidTests := true, laidLooks := .later }
def LinesThereCardSaid : Prop := Claim7.holds Tryd.pinned (.plain (OpenSpec.ofChange linesThereSpec)) linesThereCard

/-- THE TIED CARD OF 'thistlelaw24.LinesPlays'. -/
def linesPlaysCard : Claim7 := { stood := { row := linesPlaysRow, standIns := [], harness := (true, "bc8b200cd11be2f09f79433c69986489a25a8a9a1351d4e0ea4d13fc7c289fa2"), looks := false }, kinds := [], alts := [], laidByText := true, laidKinds := [.data, .pinned], laidTests := true, laidLooks := .later }
def LinesPlaysCardSaid : Prop := Claim7.holds Tryd.pinned (.plain (OpenSpec.ofChange linesPlaysSpec)) linesPlaysCard

/-- THE SECOND FORM's CARD OF 'thistlelaw24.LinesSorts'. -/
def linesSortsUptoCard : Claim7 := { stood := { row := linesSortsUptoRow, standIns := [], harness := (true, "bc8b200cd11be2f09f79433c69986489a25a8a9a1351d4e0ea4d13fc7c289fa2"), looks := false }, kinds := [], alts := [], laidByText := true, laidKinds := [.data, .pinned], laidTests := true, laidLooks := .later }
def LinesSortsUptoCardSaid : Prop := Claim7.holds Tryd.pinned (.plain (OpenSpec.upto linesSortsSpec)) linesSortsUptoCard

/-- THE SECOND FORM's CARD OF 'thistlelaw24.LinesWhole'. -/
def linesWholeUptoCard : Claim7 := { stood := { row := linesWholeUptoRow, standIns := [], harness := (true, "bc8b200cd11be2f09f79433c69986489a25a8a9a1351d4e0ea4d13fc7c289fa2"), looks := false }, kinds := [], alts := [], laidByText := true, laidKinds := [.data, .pinned], laidTests := true, laidLooks := .later }
def LinesWholeUptoCardSaid : Prop := Claim7.holds Tryd.pinned (.plain (OpenSpec.upto linesWholeSpec)) linesWholeUptoCard

/-- THE SECOND FORM's CARD OF 'thistlelaw24.LinesThere'. -/
def linesThereUptoCard : Claim7 := { stood := { row := linesThereUptoRow, standIns := [], harness := (true, "bc8b200cd11be2f09f79433c69986489a25a8a9a1351d4e0ea4d13fc7c289fa2"), looks := false }, kinds := [], alts := [], laidByText := true, laidKinds := [.data, .pinned], laidTests := true, laidLooks := .later }
def LinesThereUptoCardSaid : Prop := Claim7.holds Tryd.pinned (.plain (OpenSpec.upto linesThereSpec)) linesThereUptoCard

/-- THE SECOND FORM's CARD OF 'thistlelaw24.LinesPlays'. -/
def linesPlaysUptoCard : Claim7 := { stood := { row := linesPlaysUptoRow, standIns := [], harness := (true, "bc8b200cd11be2f09f79433c69986489a25a8a9a1351d4e0ea4d13fc7c289fa2"), looks := false }, kinds := [], alts := [], laidByText := true, laidKinds := [.data, .pinned], laidTests := true, laidLooks := .later }
def LinesPlaysUptoCardSaid : Prop := Claim7.holds Tryd.pinned (.plain (OpenSpec.upto linesPlaysSpec)) linesPlaysUptoCard
end Rows
end Go.Proofs.YteippkoomlganaaDoor
