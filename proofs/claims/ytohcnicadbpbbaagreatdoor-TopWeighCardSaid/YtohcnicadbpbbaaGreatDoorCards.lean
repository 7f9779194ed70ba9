/-
  DERIVED. GIVEN WITH THE SEED: THE CARDS: each row of YtohcnicadbpbbaaGreatDoorRows.lean that lists a variable, with what it lists TIED to the program's text (the seventh form; the later family's looks); each row that meets fmt, with fmt's text TOLD by the authors' own Lean function (tested against real Go, not proved from fmt's source: count such statements apart). THE CARD IS WHAT COUNTS. Prove the row's statement (the work); the ties are given (YtohcnicadbpbbaaGreatDoorTie.lean); close each card by the builder's one call (the guide's Derived/Test/ToyasCard.lean, 'card_holds'). Laid BY PROGRAM, IN A SANDBOX (cutbox-door.mjs). By AI agents, Wed Nov 11 2026. No macro, syntax, notation, axiom, sorry.
-/
import Derived.Test.YtohcnicadbpbbaaGreatDoorRows
import GoSem.ClaimSeven
namespace Go.Proofs.YtohcnicadbpbbaaGreatDoor
namespace Rows

/-- THE TIED CARD OF 'firntop.TopWeigh'. -/
def topWeighCard : Claim7 := { stood := { row := topWeighRow, standIns := [], harness := (true, "234163ab7eb8d168b0dc4e479b42a9fa0757bf3594dba142ac48127859cf285c"), looks := false }, kinds := [], alts := [], laidByText := true, laidKinds := [.data, .data], laidTests := true, laidLooks := .later }
def TopWeighCardSaid : Prop := Claim7.holds Tryz.pinned (.plain (OpenSpec.ofChange topWeighSpec)) topWeighCard

/-- THE TIED CARD OF 'firnlaw07.WeighBest'. -/
def weighBestCard : Claim7 := { stood := { row := weighBestRow, standIns := [], harness := (true, "234163ab7eb8d168b0dc4e479b42a9fa0757bf3594dba142ac48127859cf285c"), looks := false }, kinds := [], alts := [], laidByText := true, laidKinds := [.data, .data], laidTests := true, laidLooks := .later }
def WeighBestCardSaid : Prop := Claim7.holds Tryz.pinned (.plain (OpenSpec.ofChange weighBestSpec)) weighBestCard

/-- THE SECOND FORM's CARD OF 'firntop.TopWeigh'. -/
def topWeighUptoCard : Claim7 := { stood := { row := topWeighUptoRow, standIns := [], harness := (true, "234163ab7eb8d168b0dc4e479b42a9fa0757bf3594dba142ac48127859cf285c"), looks := false }, kinds := [], alts := [], laidByText := true, laidKinds := [.data, .data], laidTests := true, laidLooks := .later }
def TopWeighUptoCardSaid : Prop := Claim7.holds Tryz.pinned (.plain (OpenSpec.upto topWeighSpec)) topWeighUptoCard

/-- THE SECOND FORM's CARD OF 'firnlaw07.WeighBest'. -/
def weighBestUptoCard : Claim7 := { stood := { row := weighBestUptoRow, standIns := [], harness := (true, "234163ab7eb8d168b0dc4e479b42a9fa0757bf3594dba142ac48127859cf285c"), looks := false }, kinds := [], alts := [], laidByText := true, laidKinds := [.data, .data], laidTests := true, laidLooks := .later }
def WeighBestUptoCardSaid : Prop := Claim7.holds Tryz.pinned (.plain (OpenSpec.upto weighBestSpec)) weighBestUptoCard
end Rows
end Go.Proofs.YtohcnicadbpbbaaGreatDoor
