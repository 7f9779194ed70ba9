/-
  DERIVED. GIVEN WITH THE SEED: THE CARDS: each row of YtjokheeegcilhaaDoorRows.lean that lists a variable, with what it lists TIED to the program's text (the seventh form; the later family's looks); each row that meets fmt, with fmt's text TOLD by the authors' own Lean function (tested against real Go, not proved from fmt's source: count such statements apart). THE CARD IS WHAT COUNTS. Prove the row's statement (the work); the ties are given (YtjokheeegcilhaaDoorTie.lean); close each card by the builder's one call (the guide's Derived/Test/ToyasCard.lean, 'card_holds'). Laid BY PROGRAM, IN A SANDBOX (cutbox-door.mjs). By AI agents, Wed Nov 11 2026. No macro, syntax, notation, axiom, sorry.
-/
import Derived.Test.YtjokheeegcilhaaDoorRows
import GoSem.ClaimSeven
namespace Go.Proofs.YtjokheeegcilhaaDoor
namespace Rows

/-- THE TIED CARD OF 'firnlaw02.ConeLayer'. -/
def coneLayerCard : Claim7 := { stood := { row := coneLayerRow, standIns := [], harness := (true, "cdff16540a63a8135f93e8a5ab1e85430012cfcff8fb7a3058136517e404e0f3"), looks := false }, kinds := [], alts := [], laidByText := true, laidKinds := [.data], laidTests := true, laidLooks := .later }
def ConeLayerCardSaid : Prop := Claim7.holds Tryd.pinned (.plain (OpenSpec.ofChange coneLayerSpec)) coneLayerCard

/-- THE TIED CARD OF 'firnlaw02.ConeBefores'. -/
def coneBeforesCard : Claim7 := { stood := { row := coneBeforesRow, standIns := [], harness := (true, "cdff16540a63a8135f93e8a5ab1e85430012cfcff8fb7a3058136517e404e0f3"), looks := false }, kinds := [], alts := [], laidByText := true, laidKinds := [.data], laidTests := true, laidLooks := .later }
def ConeBeforesCardSaid : Prop := Claim7.holds Tryd.pinned (.plain (OpenSpec.ofChange coneBeforesSpec)) coneBeforesCard

/-- THE TIED CARD OF 'firnlaw02.ConeOrders'. -/
def coneOrdersCard : Claim7 := { stood := { row := coneOrdersRow, standIns := [], harness := (true, "cdff16540a63a8135f93e8a5ab1e85430012cfcff8fb7a3058136517e404e0f3"), looks := false }, kinds := [], alts := [], laidByText := true, laidKinds := [.data], laidTests := true, laidLooks := .later }
def ConeOrdersCardSaid : Prop := Claim7.holds Tryd.pinned (.plain (OpenSpec.ofChange coneOrdersSpec)) coneOrdersCard

/-- THE TIED CARD OF 'firnlaw02.ConeMoves'. -/
def coneMovesCard : Claim7 := { stood := { row := coneMovesRow, standIns := [], harness := (true, "cdff16540a63a8135f93e8a5ab1e85430012cfcff8fb7a3058136517e404e0f3"), looks := false }, kinds := [], alts := [], laidByText := true, laidKinds := [.data], laidTests := true, laidLooks := .later }
def ConeMovesCardSaid : Prop := Claim7.holds Tryd.pinned (.plain (OpenSpec.ofChange coneMovesSpec)) coneMovesCard

/-- THE TIED CARD OF 'firnlaw02.ConeLayers'. -/
def coneLayersCard : Claim7 := { stood := { row := coneLayersRow, standIns := [], harness := (true, "cdff16540a63a8135f93e8a5ab1e85430012cfcff8fb7a3058136517e404e0f3"), looks := false }, kinds := [], alts := [], laidByText := true, laidKinds := [.data], laidTests := true, laidLooks := .later }
def ConeLayersCardSaid : Prop := Claim7.holds Tryd.pinned (.plain (OpenSpec.ofChange coneLayersSpec)) coneLayersCard

/-- THE TIED CARD OF 'firnlaw02.ConeThreads'. -/
def coneThreadsCard : Claim7 := { stood := { row := coneThreadsRow, standIns := [], harness := (true, "cdff16540a63a8135f93e8a5ab1e85430012cfcff8fb7a3058136517e404e0f3"), looks := false }, kinds := [], alts := [], laidByText := true, laidKinds := [.data], laidTests := true, laidLooks := .later }
def ConeThreadsCardSaid : Prop := Claim7.holds Tryd.pinned (.plain (OpenSpec.ofChange coneThreadsSpec)) coneThreadsCard

/-- THE TIED CARD OF 'firntop.TopCone'. -/
def topConeCard : Claim7 := { stood := { row := topConeRow, standIns := [], harness := (true, "cdff16540a63a8135f93e8a5ab1e85430012cfcff8fb7a3058136517e404e0f3"), looks := false }, kinds := [], alts := [], laidByText := true, laidKinds := [.data], laidTests := true, laidLooks := .later }
def TopConeCardSaid : Prop := Claim7.holds Tryd.pinned (.plain (OpenSpec.ofChange topConeSpec)) topConeCard

/-- THE TIED CARD OF 'firnlaw02.ConeBoth'. -/
def coneBothCard : Claim7 := { stood := { row := coneBothRow, standIns := [], harness := (true, "cdff16540a63a8135f93e8a5ab1e85430012cfcff8fb7a3058136517e404e0f3"), looks := false }, kinds := [], alts := [], laidByText := true, laidKinds := [.data], laidTests := true, laidLooks := .later }
def ConeBothCardSaid : Prop := Claim7.holds Tryd.pinned (.plain (OpenSpec.ofChange coneBothSpec)) coneBothCard

/-- THE TIED CARD OF 'firnlaw02.ConeTriggers'. -/
def coneTriggersCard : Claim7 := { stood := { row := coneTriggersRow, standIns := [], harness := (true, "cdff16540a63a8135f93e8a5ab1e85430012cfcff8fb7a3058136517e404e0f3"), looks := false }, kinds := [], alts := [], laidByText := true, laidKinds := [.data], laidTests := true, laidLooks := .later }
def ConeTriggersCardSaid : Prop := Claim7.holds Tryd.pinned (.plain (OpenSpec.ofChange coneTriggersSpec)) coneTriggersCard

/-- THE TIED CARD OF 'firnlaw02.ConeTimes'. -/
def coneTimesCard : Claim7 := { stood := { row := coneTimesRow, standIns := [], harness := (true, "cdff16540a63a8135f93e8a5ab1e85430012cfcff8fb7a3058136517e404e0f3"), looks := false }, kinds := [], alts := [], laidByText := true, laidKinds := [.data], laidTests := true, laidLooks := .later }
def ConeTimesCardSaid : Prop := Claim7.holds Tryd.pinned (.plain (OpenSpec.ofChange coneTimesSpec)) coneTimesCard

/-- THE TIED CARD OF 'firnlaw02.ConeChains'. -/
def coneChainsCard : Claim7 := { stood := { row := coneChainsRow, standIns := [], harness := (true, "cdff16540a63a8135f93e8a5ab1e85430012cfcff8fb7a3058136517e404e0f3"), looks := false }, kinds := [], alts := [], laidByText := true, laidKinds := [.data], laidTests := true, laidLooks := .later }
def ConeChainsCardSaid : Prop := Claim7.holds Tryd.pinned (.plain (OpenSpec.ofChange coneChainsSpec)) coneChainsCard

/-- THE TIED CARD OF 'firnlaw02.ConeTurns'. -/
def coneTurnsCard : Claim7 := { stood := { row := coneTurnsRow, standIns := [], harness := (true, "cdff16540a63a8135f93e8a5ab1e85430012cfcff8fb7a3058136517e404e0f3"), looks := false }, kinds := [], alts := [], laidByText := true, laidKinds := [.data], laidTests := true, laidLooks := .later }
def ConeTurnsCardSaid : Prop := Claim7.holds Tryd.pinned (.plain (OpenSpec.ofChange coneTurnsSpec)) coneTurnsCard

/-- THE SECOND FORM's CARD OF 'firnlaw02.ConeLayer'. -/
def coneLayerUptoCard : Claim7 := { stood := { row := coneLayerUptoRow, standIns := [], harness := (true, "cdff16540a63a8135f93e8a5ab1e85430012cfcff8fb7a3058136517e404e0f3"), looks := false }, kinds := [], alts := [], laidByText := true, laidKinds := [.data], laidTests := true, laidLooks := .later }
def ConeLayerUptoCardSaid : Prop := Claim7.holds Tryd.pinned (.plain (OpenSpec.upto coneLayerSpec)) coneLayerUptoCard

/-- THE SECOND FORM's CARD OF 'firnlaw02.ConeBefores'. -/
def coneBeforesUptoCard : Claim7 := { stood := { row := coneBeforesUptoRow, standIns := [], harness := (true, "cdff16540a63a8135f93e8a5ab1e85430012cfcff8fb7a3058136517e404e0f3"), looks := false }, kinds := [], alts := [], laidByText := true, laidKinds := [.data], laidTests := true, laidLooks := .later }
def ConeBeforesUptoCardSaid : Prop := Claim7.holds Tryd.pinned (.plain (OpenSpec.upto coneBeforesSpec)) coneBeforesUptoCard

/-- THE SECOND FORM's CARD OF 'firnlaw02.ConeOrders'. -/
def coneOrdersUptoCard : Claim7 := { stood := { row := coneOrdersUptoRow, standIns := [], harness := (true, "cdff16540a63a8135f93e8a5ab1e85430012cfcff8fb7a3058136517e404e0f3"), looks := false }, kinds := [], alts := [], laidByText := true, laidKinds := [.data], laidTests := true, laidLooks := .later }
def ConeOrdersUptoCardSaid : Prop := Claim7.holds Tryd.pinned (.plain (OpenSpec.upto coneOrdersSpec)) coneOrdersUptoCard

/-- THE SECOND FORM's CARD OF 'firnlaw02.ConeMoves'. -/
def coneMovesUptoCard : Claim7 := { stood := { row := coneMovesUptoRow, standIns := [], harness := (true, "cdff16540a63a8135f93e8a5ab1e85430012cfcff8fb7a3058136517e404e0f3"), looks := false }, kinds := [], alts := [], laidByText := true, laidKinds := [.data], laidTests := true, laidLooks := .later }
def ConeMovesUptoCardSaid : Prop := Claim7.holds Tryd.pinned (.plain (OpenSpec.upto coneMovesSpec)) coneMovesUptoCard

/-- THE SECOND FORM's CARD OF 'firnlaw02.ConeLayers'. -/
def coneLayersUptoCard : Claim7 := { stood := { row := coneLayersUptoRow, standIns := [], harness := (true, "cdff16540a63a8135f93e8a5ab1e85430012cfcff8fb7a3058136517e404e0f3"), looks := false }, kinds := [], alts := [], laidByText := true, laidKinds := [.data], laidTests := true, laidLooks := .later }
def ConeLayersUptoCardSaid : Prop := Claim7.holds Tryd.pinned (.plain (OpenSpec.upto coneLayersSpec)) coneLayersUptoCard

/-- THE SECOND FORM's CARD OF 'firnlaw02.ConeThreads'. -/
def coneThreadsUptoCard : Claim7 := { stood := { row := coneThreadsUptoRow, standIns := [], harness := (true, "cdff16540a63a8135f93e8a5ab1e85430012cfcff8fb7a3058136517e404e0f3"), looks := false }, kinds := [], alts := [], laidByText := true, laidKinds := [.data], laidTests := true, laidLooks := .later }
def ConeThreadsUptoCardSaid : Prop := Claim7.holds Tryd.pinned (.plain (OpenSpec.upto coneThreadsSpec)) coneThreadsUptoCard

/-- THE SECOND FORM's CARD OF 'firntop.TopCone'. -/
def topConeUptoCard : Claim7 := { stood := { row := topConeUptoRow, standIns := [], harness := (true, "cdff16540a63a8135f93e8a5ab1e85430012cfcff8fb7a3058136517e404e0f3"), looks := false }, kinds := [], alts := [], laidByText := true, laidKinds := [.data], laidTests := true, laidLooks := .later }
def TopConeUptoCardSaid : Prop := Claim7.holds Tryd.pinned (.plain (OpenSpec.upto topConeSpec)) topConeUptoCard

/-- THE SECOND FORM's CARD OF 'firnlaw02.ConeBoth'. -/
def coneBothUptoCard : Claim7 := { stood := { row := coneBothUptoRow, standIns := [], harness := (true, "cdff16540a63a8135f93e8a5ab1e85430012cfcff8fb7a3058136517e404e0f3"), looks := false }, kinds := [], alts := [], laidByText := true, laidKinds := [.data], laidTests := true, laidLooks := .later }
def ConeBothUptoCardSaid : Prop := Claim7.holds Tryd.pinned (.plain (OpenSpec.upto coneBothSpec)) coneBothUptoCard

/-- THE SECOND FORM's CARD OF 'firnlaw02.ConeTriggers'. -/
def coneTriggersUptoCard : Claim7 := { stood := { row := coneTriggersUptoRow, standIns := [], harness := (true, "cdff16540a63a8135f93e8a5ab1e85430012cfcff8fb7a3058136517e404e0f3"), looks := false }, kinds := [], alts := [], laidByText := true, laidKinds := [.data], laidTests := true, laidLooks := .later }
def ConeTriggersUptoCardSaid : Prop := Claim7.holds Tryd.pinned (.plain (OpenSpec.upto coneTriggersSpec)) coneTriggersUptoCard

/-- THE SECOND FORM's CARD OF 'firnlaw02.ConeTimes'. -/
def coneTimesUptoCard : Claim7 := { stood := { row := coneTimesUptoRow, standIns := [], harness := (true, "cdff16540a63a8135f93e8a5ab1e85430012cfcff8fb7a3058136517e404e0f3"), looks := false }, kinds := [], alts := [], laidByText := true, laidKinds := [.data], laidTests := true, laidLooks := .later }
def ConeTimesUptoCardSaid : Prop := Claim7.holds Tryd.pinned (.plain (OpenSpec.upto coneTimesSpec)) coneTimesUptoCard

/-- THE SECOND FORM's CARD OF 'firnlaw02.ConeChains'. -/
def coneChainsUptoCard : Claim7 := { stood := { row := coneChainsUptoRow, standIns := [], harness := (true, "cdff16540a63a8135f93e8a5ab1e85430012cfcff8fb7a3058136517e404e0f3"), looks := false }, kinds := [], alts := [], laidByText := true, laidKinds := [.data], laidTests := true, laidLooks := .later }
def ConeChainsUptoCardSaid : Prop := Claim7.holds Tryd.pinned (.plain (OpenSpec.upto coneChainsSpec)) coneChainsUptoCard

/-- THE SECOND FORM's CARD OF 'firnlaw02.ConeTurns'. -/
def coneTurnsUptoCard : Claim7 := { stood := { row := coneTurnsUptoRow, standIns := [], harness := (true, "cdff16540a63a8135f93e8a5ab1e85430012cfcff8fb7a3058136517e404e0f3"), looks := false }, kinds := [], alts := [], laidByText := true, laidKinds := [.data], laidTests := true, laidLooks := .later }
def ConeTurnsUptoCardSaid : Prop := Claim7.holds Tryd.pinned (.plain (OpenSpec.upto coneTurnsSpec)) coneTurnsUptoCard
end Rows
end Go.Proofs.YtjokheeegcilhaaDoor
