/- What all laws of chapter 9 need of their rows: a world for the witness, in which the listed variables hold what the rows say. -/
import Derived.Test.YtehdemcfeoiecaaDoorSum
import Derived.Test.YtehdemcfeoiecaaDoorCards
import Derived.Test.YtehdemcfeoiecaaDoorTie
import Derived.ProofKit
import Derived.OpenShut
import Derived.ShutString
import Derived.ChangeOld
import Derived.Below
import Derived.Deep.DeepHandedRow
import Derived.Lib.LaidTab
namespace Go.Firn
theorem IsRow.cap {w : World} {a : Option Addr} {len cap : Nat} {zs : List Int} (h : IsRow w a len cap zs) : len ≤ cap := by
  rcases h with ⟨_, rfl, rfl, _⟩ | ⟨x, _, hl, _⟩
  · exact Nat.le_refl _
  · exact hl
end Go.Firn
namespace Go.Proofs.YtehdemcfeoiecaaDoor
open Go.ChangeShapes Go.WideShapes Go.ChangeAt Go.RowKit Go.Firn

theorem own : ownKnob Tryd.prog.godebug = none := by kernel_rfl
theorem laidOut : laidOutB Tryd.prog = true := by kernel_rfl
/-- A block filled with bytes. -/
def fillObj (zs : List Nat) : Obj → Obj
  | .cells _ t frozen => .cells (zs.map fun x : Nat => Value.int .u8 (x : Int)).toArray t frozen
  | o => o
def accZ : List Nat := [128, 191, 160, 191, 128, 159, 144, 191, 128, 143]
/-- A world for the witness. -/
noncomputable def laidWorld (os : Os) : World :=
  { World.holding Tryd.prog os ⟨#[], #[], []⟩ with heap := ((World.holding Tryd.prog os ⟨#[], #[], []⟩).heap.modify 3 (fillObj Go.Pinned.utf8FirstZ)).modify 4 (fillObj (accZ ++ List.replicate 22 0)) }

end Go.Proofs.YtehdemcfeoiecaaDoor
