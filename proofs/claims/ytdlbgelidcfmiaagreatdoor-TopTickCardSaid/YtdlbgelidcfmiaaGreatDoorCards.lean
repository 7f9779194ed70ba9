/-
  DERIVED. GIVEN WITH THE SEED: THE CARDS: each row of YtdlbgelidcfmiaaGreatDoorRows.lean that lists a variable, with what it lists TIED to the program's text (the seventh form; the later family's looks); each row that meets fmt, with fmt's text TOLD by the authors' own Lean function (tested against real Go, not proved from fmt's source: count such statements apart). THE CARD IS WHAT COUNTS. Prove the row's statement (the work); the ties are given (YtdlbgelidcfmiaaGreatDoorTie.lean); close each card by the builder's one call (the guide's Derived/Test/ToyasCard.lean, 'card_holds'). Laid BY PROGRAM, IN A SANDBOX (cutbox-door.mjs). By AI agents, Wed Nov 11 2026. No macro, syntax, notation, axiom, sorry.
-/
import Derived.Test.YtdlbgelidcfmiaaGreatDoorRows
import GoSem.ClaimSeven
namespace Go.Proofs.YtdlbgelidcfmiaaGreatDoor
namespace Rows

/-- THE TIED CARD OF 'firntop.TopTick'. -/
def topTickCard : Claim7 := { stood := { row := topTickRow, standIns := [], harness := (true, "df2f493e0c5dadb8e8fe5a2a13a891f6ac2747d401e77c44308157b1340ba64f"), looks := true }, kinds := [], alts := [], laidByText := true, laidKinds := [.data, .data, .data, .data, .sentinel, .sentinel, .pinned], laidTests := true, laidLooks := .later }
def TopTickCardSaid : Prop := Claim7.holds Tryz.pinned (.plain (OpenSpec.ofChange topTickSpec)) topTickCard

/-- THE SECOND FORM's CARD OF 'firntop.TopTick'. -/
def topTickUptoCard : Claim7 := { stood := { row := topTickUptoRow, standIns := [], harness := (true, "df2f493e0c5dadb8e8fe5a2a13a891f6ac2747d401e77c44308157b1340ba64f"), looks := true }, kinds := [], alts := [], laidByText := true, laidKinds := [.data, .data, .data, .data, .sentinel, .sentinel, .pinned], laidTests := true, laidLooks := .later }
def TopTickUptoCardSaid : Prop := Claim7.holds Tryz.pinned (.plain (OpenSpec.upto topTickSpec)) topTickUptoCard
end Rows
end Go.Proofs.YtdlbgelidcfmiaaGreatDoor
