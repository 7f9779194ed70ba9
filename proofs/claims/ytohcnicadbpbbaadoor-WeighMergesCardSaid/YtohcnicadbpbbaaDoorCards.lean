/-
  DERIVED. GIVEN WITH THE SEED: THE CARDS: each row of YtohcnicadbpbbaaDoorRows.lean that lists a variable, with what it lists TIED to the program's text (the seventh form; the later family's looks); each row that meets fmt, with fmt's text TOLD by the authors' own Lean function (tested against real Go, not proved from fmt's source: count such statements apart). THE CARD IS WHAT COUNTS. Prove the row's statement (the work); the ties are given (YtohcnicadbpbbaaDoorTie.lean); close each card by the builder's one call (the guide's Derived/Test/ToyasCard.lean, 'card_holds'). Laid BY PROGRAM, IN A SANDBOX (cutbox-door.mjs). By AI agents, Wed Nov 11 2026. No macro, syntax, notation, axiom, sorry.
-/
import Derived.Test.YtohcnicadbpbbaaDoorRows
import GoSem.ClaimSeven
namespace Go.Proofs.YtohcnicadbpbbaaDoor
namespace Rows

/-- THE TIED CARD OF 'firnlaw07.WeighGains'. -/
def weighGainsCard : Claim7 := { stood := { row := weighGainsRow, standIns := [], harness := (true, "7ca0df81a31389d1a2df747f64014077c12a727da117deceaefbcd1c459a7df1"), looks := false }, kinds := [], alts := [], laidByText := true, laidKinds := [.data, .data], laidTests := true, laidLooks := .later }
def WeighGainsCardSaid : Prop := Claim7.holds Tryd.pinned (.plain (OpenSpec.ofChange weighGainsSpec)) weighGainsCard

/-- THE TIED CARD OF 'firnlaw07.WeighProofs'. -/
def weighProofsCard : Claim7 := { stood := { row := weighProofsRow, standIns := [], harness := (true, "7ca0df81a31389d1a2df747f64014077c12a727da117deceaefbcd1c459a7df1"), looks := false }, kinds := [], alts := [], laidByText := true, laidKinds := [.data, .data], laidTests := true, laidLooks := .later }
def WeighProofsCardSaid : Prop := Claim7.holds Tryd.pinned (.plain (OpenSpec.ofChange weighProofsSpec)) weighProofsCard

/-- THE TIED CARD OF 'firnlaw07.WeighFar'. -/
def weighFarCard : Claim7 := { stood := { row := weighFarRow, standIns := [], harness := (true, "7ca0df81a31389d1a2df747f64014077c12a727da117deceaefbcd1c459a7df1"), looks := false }, kinds := [], alts := [], laidByText := true, laidKinds := [.data, .data], laidTests := true, laidLooks := .later }
def WeighFarCardSaid : Prop := Claim7.holds Tryd.pinned (.plain (OpenSpec.ofChange weighFarSpec)) weighFarCard

/-- THE TIED CARD OF 'firnlaw07.WeighMerges'. -/
def weighMergesCard : Claim7 := { stood := { row := weighMergesRow, standIns := [], harness := (true, "7ca0df81a31389d1a2df747f64014077c12a727da117deceaefbcd1c459a7df1"), looks := false }, kinds := [], alts := [], laidByText := true, laidKinds := [.data, .data], laidTests := true, laidLooks := .later }
def WeighMergesCardSaid : Prop := Claim7.holds Tryd.pinned (.plain (OpenSpec.ofChange weighMergesSpec)) weighMergesCard

/-- THE TIED CARD OF 'firnlaw07.WeighRows'. -/
def weighRowsCard : Claim7 := { stood := { row := weighRowsRow, standIns := [], harness := (true, "7ca0df81a31389d1a2df747f64014077c12a727da117deceaefbcd1c459a7df1"), looks := false }, kinds := [], alts := [], laidByText := true, laidKinds := [.data, .data], laidTests := true, laidLooks := .later }
def WeighRowsCardSaid : Prop := Claim7.holds Tryd.pinned (.plain (OpenSpec.ofChange weighRowsSpec)) weighRowsCard

/-- THE SECOND FORM's CARD OF 'firnlaw07.WeighGains'. -/
def weighGainsUptoCard : Claim7 := { stood := { row := weighGainsUptoRow, standIns := [], harness := (true, "7ca0df81a31389d1a2df747f64014077c12a727da117deceaefbcd1c459a7df1"), looks := false }, kinds := [], alts := [], laidByText := true, laidKinds := [.data, .data], laidTests := true, laidLooks := .later }
def WeighGainsUptoCardSaid : Prop := Claim7.holds Tryd.pinned (.plain (OpenSpec.upto weighGainsSpec)) weighGainsUptoCard

/-- THE SECOND FORM's CARD OF 'firnlaw07.WeighProofs'. -/
def weighProofsUptoCard : Claim7 := { stood := { row := weighProofsUptoRow, standIns := [], harness := (true, "7ca0df81a31389d1a2df747f64014077c12a727da117deceaefbcd1c459a7df1"), looks := false }, kinds := [], alts := [], laidByText := true, laidKinds := [.data, .data], laidTests := true, laidLooks := .later }
def WeighProofsUptoCardSaid : Prop := Claim7.holds Tryd.pinned (.plain (OpenSpec.upto weighProofsSpec)) weighProofsUptoCard

/-- THE SECOND FORM's CARD OF 'firnlaw07.WeighFar'. -/
def weighFarUptoCard : Claim7 := { stood := { row := weighFarUptoRow, standIns := [], harness := (true, "7ca0df81a31389d1a2df747f64014077c12a727da117deceaefbcd1c459a7df1"), looks := false }, kinds := [], alts := [], laidByText := true, laidKinds := [.data, .data], laidTests := true, laidLooks := .later }
def WeighFarUptoCardSaid : Prop := Claim7.holds Tryd.pinned (.plain (OpenSpec.upto weighFarSpec)) weighFarUptoCard

/-- THE SECOND FORM's CARD OF 'firnlaw07.WeighMerges'. -/
def weighMergesUptoCard : Claim7 := { stood := { row := weighMergesUptoRow, standIns := [], harness := (true, "7ca0df81a31389d1a2df747f64014077c12a727da117deceaefbcd1c459a7df1"), looks := false }, kinds := [], alts := [], laidByText := true, laidKinds := [.data, .data], laidTests := true, laidLooks := .later }
def WeighMergesUptoCardSaid : Prop := Claim7.holds Tryd.pinned (.plain (OpenSpec.upto weighMergesSpec)) weighMergesUptoCard

/-- THE SECOND FORM's CARD OF 'firnlaw07.WeighRows'. -/
def weighRowsUptoCard : Claim7 := { stood := { row := weighRowsUptoRow, standIns := [], harness := (true, "7ca0df81a31389d1a2df747f64014077c12a727da117deceaefbcd1c459a7df1"), looks := false }, kinds := [], alts := [], laidByText := true, laidKinds := [.data, .data], laidTests := true, laidLooks := .later }
def WeighRowsUptoCardSaid : Prop := Claim7.holds Tryd.pinned (.plain (OpenSpec.upto weighRowsSpec)) weighRowsUptoCard
end Rows
end Go.Proofs.YtohcnicadbpbbaaDoor
