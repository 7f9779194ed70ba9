/-
  DERIVED. GIVEN WITH THE SEED: THE CARDS: each row of YtehdemcfeoiecaaGreatDoorRows.lean that lists a variable, with what it lists TIED to the program's text (the seventh form; the later family's looks); each row that meets fmt, with fmt's text TOLD by the authors' own Lean function (tested against real Go, not proved from fmt's source: count such statements apart). THE CARD IS WHAT COUNTS. Prove the row's statement (the work); the ties are given (YtehdemcfeoiecaaGreatDoorTie.lean); close each card by the builder's one call (the guide's Derived/Test/ToyasCard.lean, 'card_holds'). Laid BY PROGRAM, IN A SANDBOX (cutbox-door.mjs). By AI agents, Wed Nov 11 2026. No macro, syntax, notation, axiom, sorry.
-/
import Derived.Test.YtehdemcfeoiecaaGreatDoorRows
import GoSem.ClaimSeven
namespace Go.Proofs.YtehdemcfeoiecaaGreatDoor
namespace Rows

/-- THE TIED CARD OF 'firnlaw09.ProvCounts'. -/
def provCountsCard : Claim7 := { stood := { row := provCountsRow, standIns := [], harness := (true, "11e7c5135fb1caa578390eecda357fcca00dd2ef360e000ebdb58a8701844c19"), looks := true }, kinds := [], alts := [], laidByText := true, laidKinds := [.data, .data, .data, .data, .sentinel, .sentinel, .pinned], laidTests := true, laidLooks := .later }
def ProvCountsCardSaid : Prop := Claim7.holds Tryz.pinned (.plain (OpenSpec.ofChange provCountsSpec)) provCountsCard

/-- THE TIED CARD OF 'firnlaw09.ProvAsks'. -/
def provAsksCard : Claim7 := { stood := { row := provAsksRow, standIns := [], harness := (true, "11e7c5135fb1caa578390eecda357fcca00dd2ef360e000ebdb58a8701844c19"), looks := true }, kinds := [], alts := [], laidByText := true, laidKinds := [.data, .data, .data, .data, .sentinel, .sentinel, .pinned], laidTests := true, laidLooks := .later }
def ProvAsksCardSaid : Prop := Claim7.holds Tryz.pinned (.plain (OpenSpec.ofChange provAsksSpec)) provAsksCard

/-- THE TIED CARD OF 'firnlaw09.ProvWides'. -/
def provWidesCard : Claim7 := { stood := { row := provWidesRow, standIns := [], harness := (true, "11e7c5135fb1caa578390eecda357fcca00dd2ef360e000ebdb58a8701844c19"), looks := true }, kinds := [], alts := [], laidByText := true, laidKinds := [.data, .data, .data, .data, .sentinel, .sentinel, .pinned], laidTests := true, laidLooks := .later }
def ProvWidesCardSaid : Prop := Claim7.holds Tryz.pinned (.plain (OpenSpec.ofChange provWidesSpec)) provWidesCard

/-- THE TIED CARD OF 'firnlaw09.ProvLost'. -/
def provLostCard : Claim7 := { stood := { row := provLostRow, standIns := [], harness := (true, "11e7c5135fb1caa578390eecda357fcca00dd2ef360e000ebdb58a8701844c19"), looks := true }, kinds := [], alts := [], laidByText := true, laidKinds := [.data, .data, .data, .data, .sentinel, .sentinel, .pinned], laidTests := true, laidLooks := .later }
def ProvLostCardSaid : Prop := Claim7.holds Tryz.pinned (.plain (OpenSpec.ofChange provLostSpec)) provLostCard

/-- THE TIED CARD OF 'firnlaw09.ProvNumbered'. -/
def provNumberedCard : Claim7 := { stood := { row := provNumberedRow, standIns := [], harness := (true, "11e7c5135fb1caa578390eecda357fcca00dd2ef360e000ebdb58a8701844c19"), looks := true }, kinds := [], alts := [], laidByText := true, laidKinds := [.data, .data, .data, .data, .sentinel, .sentinel, .pinned], laidTests := true, laidLooks := .later }
def ProvNumberedCardSaid : Prop := Claim7.holds Tryz.pinned (.plain (OpenSpec.ofChange provNumberedSpec)) provNumberedCard

/-- THE TIED CARD OF 'firntop.TopProv'. -/
def topProvCard : Claim7 := { stood := { row := topProvRow, standIns := [], harness := (true, "11e7c5135fb1caa578390eecda357fcca00dd2ef360e000ebdb58a8701844c19"), looks := true }, kinds := [], alts := [], laidByText := true, laidKinds := [.data, .data, .data, .data, .sentinel, .sentinel, .pinned], laidTests := true, laidLooks := .later }
def TopProvCardSaid : Prop := Claim7.holds Tryz.pinned (.plain (OpenSpec.ofChange topProvSpec)) topProvCard

/-- THE SECOND FORM's CARD OF 'firnlaw09.ProvCounts'. -/
def provCountsUptoCard : Claim7 := { stood := { row := provCountsUptoRow, standIns := [], harness := (true, "11e7c5135fb1caa578390eecda357fcca00dd2ef360e000ebdb58a8701844c19"), looks := true }, kinds := [], alts := [], laidByText := true, laidKinds := [.data, .data, .data, .data, .sentinel, .sentinel, .pinned], laidTests := true, laidLooks := .later }
def ProvCountsUptoCardSaid : Prop := Claim7.holds Tryz.pinned (.plain (OpenSpec.upto provCountsSpec)) provCountsUptoCard

/-- THE SECOND FORM's CARD OF 'firnlaw09.ProvAsks'. -/
def provAsksUptoCard : Claim7 := { stood := { row := provAsksUptoRow, standIns := [], harness := (true, "11e7c5135fb1caa578390eecda357fcca00dd2ef360e000ebdb58a8701844c19"), looks := true }, kinds := [], alts := [], laidByText := true, laidKinds := [.data, .data, .data, .data, .sentinel, .sentinel, .pinned], laidTests := true, laidLooks := .later }
def ProvAsksUptoCardSaid : Prop := Claim7.holds Tryz.pinned (.plain (OpenSpec.upto provAsksSpec)) provAsksUptoCard

/-- THE SECOND FORM's CARD OF 'firnlaw09.ProvWides'. -/
def provWidesUptoCard : Claim7 := { stood := { row := provWidesUptoRow, standIns := [], harness := (true, "11e7c5135fb1caa578390eecda357fcca00dd2ef360e000ebdb58a8701844c19"), looks := true }, kinds := [], alts := [], laidByText := true, laidKinds := [.data, .data, .data, .data, .sentinel, .sentinel, .pinned], laidTests := true, laidLooks := .later }
def ProvWidesUptoCardSaid : Prop := Claim7.holds Tryz.pinned (.plain (OpenSpec.upto provWidesSpec)) provWidesUptoCard

/-- THE SECOND FORM's CARD OF 'firnlaw09.ProvLost'. -/
def provLostUptoCard : Claim7 := { stood := { row := provLostUptoRow, standIns := [], harness := (true, "11e7c5135fb1caa578390eecda357fcca00dd2ef360e000ebdb58a8701844c19"), looks := true }, kinds := [], alts := [], laidByText := true, laidKinds := [.data, .data, .data, .data, .sentinel, .sentinel, .pinned], laidTests := true, laidLooks := .later }
def ProvLostUptoCardSaid : Prop := Claim7.holds Tryz.pinned (.plain (OpenSpec.upto provLostSpec)) provLostUptoCard

/-- THE SECOND FORM's CARD OF 'firnlaw09.ProvNumbered'. -/
def provNumberedUptoCard : Claim7 := { stood := { row := provNumberedUptoRow, standIns := [], harness := (true, "11e7c5135fb1caa578390eecda357fcca00dd2ef360e000ebdb58a8701844c19"), looks := true }, kinds := [], alts := [], laidByText := true, laidKinds := [.data, .data, .data, .data, .sentinel, .sentinel, .pinned], laidTests := true, laidLooks := .later }
def ProvNumberedUptoCardSaid : Prop := Claim7.holds Tryz.pinned (.plain (OpenSpec.upto provNumberedSpec)) provNumberedUptoCard

/-- THE SECOND FORM's CARD OF 'firntop.TopProv'. -/
def topProvUptoCard : Claim7 := { stood := { row := topProvUptoRow, standIns := [], harness := (true, "11e7c5135fb1caa578390eecda357fcca00dd2ef360e000ebdb58a8701844c19"), looks := true }, kinds := [], alts := [], laidByText := true, laidKinds := [.data, .data, .data, .data, .sentinel, .sentinel, .pinned], laidTests := true, laidLooks := .later }
def TopProvUptoCardSaid : Prop := Claim7.holds Tryz.pinned (.plain (OpenSpec.upto topProvSpec)) topProvUptoCard
end Rows
end Go.Proofs.YtehdemcfeoiecaaGreatDoor
