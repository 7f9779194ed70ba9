/- What all laws of chapter 2 need of their rows: the listed table in every world that holds it, and a world for the witness. -/
import Derived.Test.YtjokheeegcilhaaDoorWA
import Derived.Test.YtjokheeegcilhaaDoorCards
import Derived.Test.YtjokheeegcilhaaDoorTie
import Derived.ProofKit
import Derived.OpenShut
import Derived.ShutString
import Derived.ChangeOld
import Derived.Below
import Derived.Deep.DeepHandedRow
import Derived.Lib.LaidTab
namespace Go.Firn
theorem IsRow.cap {w : World} {a : Option Addr} {len cap : Nat} {zs : List Int} (h : IsRow w a len cap zs) : len ≤ cap := by
  rcases h with ⟨_, rfl, rfl, _⟩ | ⟨x, _, hl, _⟩
  · exact Nat.le_refl _
  · exact hl
end Go.Firn
namespace Go.Proofs.YtjokheeegcilhaaDoor
open Go.ChangeShapes Go.WideShapes Go.ChangeAt Go.RowKit Go.Firn

theorem own : ownKnob Tryd.prog.godebug = none := by kernel_rfl
theorem laidOut : laidOutB Tryd.prog = true := Tryd.laidOut
/-- The name of the table. -/
def tabName : String := (Rows.coneLayerRow.laid.map Prod.fst).headD default
theorem gTab : Tryd.prog.globalNamed tabName = some 0 := by kernel_rfl
theorem gTabType : (Tryd.prog.globals[0]?).map (·.type) = some 117 := by kernel_rfl
theorem cells117 : Tryd.prog.cellsOf 117 = 32 := by kernel_rfl
theorem cells5 : Tryd.prog.cellsOf 5 = 1 := by kernel_rfl

/-- The numbers of the table. -/
def tabZ : List Int := Lib.deBruijn32tab.map fun x : Nat => (x : Int)
theorem table {W : World} (h : laidMetH Tryd.prog Rows.coneLayerRow.laid W) : Lib.TabIs Tryd.prog W tabName .u8 tabZ :=
  Lib.tabIs_of_head (rest := []) gTab gTabType Tryd.underlying117 Tryd.underlying5 cells5 cells117 h
theorem tab_of {W : World} (h : laidMetH Tryd.prog Rows.coneLayerRow.laid W) : Tab W := by
  intro j hj
  have hl : tabZ.length = 32 := by decide
  have := (table h).cell gTab j (by rw [hl]; exact hj)
  rw [this]
  congr 2
  have : ∀ i : Fin 32, tabZ.getD i.val 0 = ((Lib.deBruijn32tab.getD i.val 0 : Nat) : Int) := by decide
  exact this ⟨j, hj⟩

/-- A world for the witness: the settled one, with the table in block 0. -/
noncomputable def laidWorld (os : Os) : World :=
  { World.holding Tryd.prog os ⟨#[], #[], []⟩ with heap := (World.holding Tryd.prog os ⟨#[], #[], []⟩).heap.modify 0 fun
      | .cells _ t frozen => .cells (tabZ.map fun x => Value.int .u8 x).toArray t frozen
      | o => o }

end Go.Proofs.YtjokheeegcilhaaDoor
