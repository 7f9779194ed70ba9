/-
  DERIVED. GIVEN WITH THE SEED: THE CARDS: each row of YtehdemcfeoiecaaDoorRows.lean that lists a variable, with what it lists TIED to the program's text (the seventh form; the later family's looks); each row that meets fmt, with fmt's text TOLD by the authors' own Lean function (tested against real Go, not proved from fmt's source: count such statements apart). THE CARD IS WHAT COUNTS. Prove the row's statement (the work); the ties are given (YtehdemcfeoiecaaDoorTie.lean); close each card by the builder's one call (the guide's Derived/Test/ToyasCard.lean, 'card_holds'). Laid BY PROGRAM, IN A SANDBOX (cutbox-door.mjs). By AI agents, Wed Nov 11 2026. No macro, syntax, notation, axiom, sorry.
-/
import Derived.Test.YtehdemcfeoiecaaDoorRows
import GoSem.ClaimSeven
namespace Go.Proofs.YtehdemcfeoiecaaDoor
namespace Rows

/-- THE TIED CARD OF 'firnlaw09.ProvValues'. -/
def provValuesCard : Claim7 := { stood := { row := provValuesRow, standIns := [], harness := (true, "0860b15948e58a6d9109f64f34c1638a2972a0beb9db8f3c0caef2bd5763c6fe"), looks := true }, kinds := [], alts := [], laidByText := true, laidKinds := [.data, .pinned], laidTests := true, laidLooks := .later }
def ProvValuesCardSaid : Prop := Claim7.holds Tryd.pinned (.plain (OpenSpec.ofChange provValuesSpec)) provValuesCard

/-- THE TIED CARD OF 'firnlaw09.ProvSums'. -/
def provSumsCard : Claim7 := { stood := { row := provSumsRow, standIns := [], harness := (true, "0860b15948e58a6d9109f64f34c1638a2972a0beb9db8f3c0caef2bd5763c6fe"), looks := true }, kinds := [], alts := [], laidByText := true, laidKinds := [.data, .pinned], laidTests := true, laidLooks := .later }
def ProvSumsCardSaid : Prop := Claim7.holds Tryd.pinned (.plain (OpenSpec.ofChange provSumsSpec)) provSumsCard

/-- THE TIED CARD OF 'firnlaw09.ProvRings'. -/
def provRingsCard : Claim7 := { stood := { row := provRingsRow, standIns := [], harness := (true, "0860b15948e58a6d9109f64f34c1638a2972a0beb9db8f3c0caef2bd5763c6fe"), looks := true }, kinds := [], alts := [], laidByText := true, laidKinds := [.data, .pinned], laidTests := true, laidLooks := .later }
def ProvRingsCardSaid : Prop := Claim7.holds Tryd.pinned (.plain (OpenSpec.ofChange provRingsSpec)) provRingsCard

/-- THE TIED CARD OF 'firnlaw09.ProvNumbers'. -/
def provNumbersCard : Claim7 := { stood := { row := provNumbersRow, standIns := [], harness := (true, "0860b15948e58a6d9109f64f34c1638a2972a0beb9db8f3c0caef2bd5763c6fe"), looks := true }, kinds := [], alts := [], laidByText := true, laidKinds := [.data, .pinned], laidTests := true, laidLooks := .later }
def ProvNumbersCardSaid : Prop := Claim7.holds Tryd.pinned (.plain (OpenSpec.ofChange provNumbersSpec)) provNumbersCard

/-- THE TIED CARD OF 'firnlaw09.ProvSpares'. -/
def provSparesCard : Claim7 := { stood := { row := provSparesRow, standIns := [], harness := (true, "0860b15948e58a6d9109f64f34c1638a2972a0beb9db8f3c0caef2bd5763c6fe"), looks := true }, kinds := [], alts := [], laidByText := true, laidKinds := [.data, .pinned], laidTests := true, laidLooks := .later }
def ProvSparesCardSaid : Prop := Claim7.holds Tryd.pinned (.plain (OpenSpec.ofChange provSparesSpec)) provSparesCard

/-- THE TIED CARD OF 'firnlaw09.ProvTexts'. -/
def provTextsCard : Claim7 := { stood := { row := provTextsRow, standIns := [], harness := (true, "0860b15948e58a6d9109f64f34c1638a2972a0beb9db8f3c0caef2bd5763c6fe"), looks := true }, kinds := [], alts := [], laidByText := true, laidKinds := [.data, .data, .data, .data, .sentinel, .sentinel, .pinned], laidTests := true, laidLooks := .later }
def ProvTextsCardSaid : Prop := Claim7.holds Tryd.pinned (.plain (OpenSpec.ofChange provTextsSpec)) provTextsCard

/-- THE SECOND FORM's CARD OF 'firnlaw09.ProvValues'. -/
def provValuesUptoCard : Claim7 := { stood := { row := provValuesUptoRow, standIns := [], harness := (true, "0860b15948e58a6d9109f64f34c1638a2972a0beb9db8f3c0caef2bd5763c6fe"), looks := true }, kinds := [], alts := [], laidByText := true, laidKinds := [.data, .pinned], laidTests := true, laidLooks := .later }
def ProvValuesUptoCardSaid : Prop := Claim7.holds Tryd.pinned (.plain (OpenSpec.upto provValuesSpec)) provValuesUptoCard

/-- THE SECOND FORM's CARD OF 'firnlaw09.ProvSums'. -/
def provSumsUptoCard : Claim7 := { stood := { row := provSumsUptoRow, standIns := [], harness := (true, "0860b15948e58a6d9109f64f34c1638a2972a0beb9db8f3c0caef2bd5763c6fe"), looks := true }, kinds := [], alts := [], laidByText := true, laidKinds := [.data, .pinned], laidTests := true, laidLooks := .later }
def ProvSumsUptoCardSaid : Prop := Claim7.holds Tryd.pinned (.plain (OpenSpec.upto provSumsSpec)) provSumsUptoCard

/-- THE SECOND FORM's CARD OF 'firnlaw09.ProvRings'. -/
def provRingsUptoCard : Claim7 := { stood := { row := provRingsUptoRow, standIns := [], harness := (true, "0860b15948e58a6d9109f64f34c1638a2972a0beb9db8f3c0caef2bd5763c6fe"), looks := true }, kinds := [], alts := [], laidByText := true, laidKinds := [.data, .pinned], laidTests := true, laidLooks := .later }
def ProvRingsUptoCardSaid : Prop := Claim7.holds Tryd.pinned (.plain (OpenSpec.upto provRingsSpec)) provRingsUptoCard

/-- THE SECOND FORM's CARD OF 'firnlaw09.ProvNumbers'. -/
def provNumbersUptoCard : Claim7 := { stood := { row := provNumbersUptoRow, standIns := [], harness := (true, "0860b15948e58a6d9109f64f34c1638a2972a0beb9db8f3c0caef2bd5763c6fe"), looks := true }, kinds := [], alts := [], laidByText := true, laidKinds := [.data, .pinned], laidTests := true, laidLooks := .later }
def ProvNumbersUptoCardSaid : Prop := Claim7.holds Tryd.pinned (.plain (OpenSpec.upto provNumbersSpec)) provNumbersUptoCard

/-- THE SECOND FORM's CARD OF 'firnlaw09.ProvSpares'. -/
def provSparesUptoCard : Claim7 := { stood := { row := provSparesUptoRow, standIns := [], harness := (true, "0860b15948e58a6d9109f64f34c1638a2972a0beb9db8f3c0caef2bd5763c6fe"), looks := true }, kinds := [], alts := [], laidByText := true, laidKinds := [.data, .pinned], laidTests := true, laidLooks := .later }
def ProvSparesUptoCardSaid : Prop := Claim7.holds Tryd.pinned (.plain (OpenSpec.upto provSparesSpec)) provSparesUptoCard

/-- THE SECOND FORM's CARD OF 'firnlaw09.ProvTexts'. -/
def provTextsUptoCard : Claim7 := { stood := { row := provTextsUptoRow, standIns := [], harness := (true, "0860b15948e58a6d9109f64f34c1638a2972a0beb9db8f3c0caef2bd5763c6fe"), looks := true }, kinds := [], alts := [], laidByText := true, laidKinds := [.data, .data, .data, .data, .sentinel, .sentinel, .pinned], laidTests := true, laidLooks := .later }
def ProvTextsUptoCardSaid : Prop := Claim7.holds Tryd.pinned (.plain (OpenSpec.upto provTextsSpec)) provTextsUptoCard
end Rows
end Go.Proofs.YtehdemcfeoiecaaDoor
