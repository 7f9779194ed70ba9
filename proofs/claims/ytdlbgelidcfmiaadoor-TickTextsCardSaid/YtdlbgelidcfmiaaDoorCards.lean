/-
  DERIVED. GIVEN WITH THE SEED: THE CARDS: each row of YtdlbgelidcfmiaaDoorRows.lean that lists a variable, with what it lists TIED to the program's text (the seventh form; the later family's looks); each row that meets fmt, with fmt's text TOLD by the authors' own Lean function (tested against real Go, not proved from fmt's source: count such statements apart). THE CARD IS WHAT COUNTS. Prove the row's statement (the work); the ties are given (YtdlbgelidcfmiaaDoorTie.lean); close each card by the builder's one call (the guide's Derived/Test/ToyasCard.lean, 'card_holds'). Laid BY PROGRAM, IN A SANDBOX (cutbox-door.mjs). By AI agents, Wed Nov 11 2026. No macro, syntax, notation, axiom, sorry.
-/
import Derived.Test.YtdlbgelidcfmiaaDoorRows
import GoSem.ClaimSeven
namespace Go.Proofs.YtdlbgelidcfmiaaDoor
namespace Rows

/-- THE TIED CARD OF 'firnlaw01.TickTexts'. -/
def tickTextsCard : Claim7 := { stood := { row := tickTextsRow, standIns := [], harness := (true, "675a8f26d2bea4b88e045686fe2791faa8087e1394b03948640fb16a985d3d94"), looks := true }, kinds := [], alts := [], laidByText := true, laidKinds := [.data, .data, .data, .data, .sentinel, .sentinel, .pinned], laidTests := true, laidLooks := .later }
def TickTextsCardSaid : Prop := Claim7.holds Tryd.pinned (.plain (OpenSpec.ofChange tickTextsSpec)) tickTextsCard

/-- THE SECOND FORM's CARD OF 'firnlaw01.TickTexts'. -/
def tickTextsUptoCard : Claim7 := { stood := { row := tickTextsUptoRow, standIns := [], harness := (true, "675a8f26d2bea4b88e045686fe2791faa8087e1394b03948640fb16a985d3d94"), looks := true }, kinds := [], alts := [], laidByText := true, laidKinds := [.data, .data, .data, .data, .sentinel, .sentinel, .pinned], laidTests := true, laidLooks := .later }
def TickTextsUptoCardSaid : Prop := Claim7.holds Tryd.pinned (.plain (OpenSpec.upto tickTextsSpec)) tickTextsUptoCard
end Rows
end Go.Proofs.YtdlbgelidcfmiaaDoor
