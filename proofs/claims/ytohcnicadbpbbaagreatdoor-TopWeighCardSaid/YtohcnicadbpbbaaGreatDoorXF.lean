/- What all laws of this seat need of their rows: the listed tables in every world that holds them, and a world for the witness. Opening an argument that is a struct of two slices of ints. -/
import Derived.Test.YtohcnicadbpbbaaGreatDoorMH
import Derived.Test.YtohcnicadbpbbaaGreatDoorCards
import Derived.Test.YtohcnicadbpbbaaGreatDoorTie
import Derived.ProofKit
import Derived.OpenShut
import Derived.ShutString
import Derived.ChangeOld
import Derived.Below
import Derived.Deep.DeepHandedRow
import Derived.Lib.LaidTab
import Derived.LaidSub
import Derived.Test.YtohcnicadbpbbaaGreatDoorMA
import Derived.ChangeSlices
namespace Go.Proofs.YtohcnicadbpbbaaGreatDoor
open Go.ChangeShapes Go.WideShapes Go.ChangeAt Go.RowKit Go.Firn

theorem own : ownKnob Tryz.prog.godebug = none := by kernel_rfl
theorem laidOut : laidOutB Tryz.prog = true := by kernel_rfl
/-- The names of the tables. -/
def tabName0 : String := (Rows.weighBestRow.laid.map Prod.fst).headD default
def tabName : String := ((Rows.weighBestRow.laid.map Prod.fst).drop 1).headD default
theorem gTab : Tryz.prog.globalNamed tabName = some 1 := by kernel_rfl
theorem gTabType : (Tryz.prog.globals[1]?).map (·.type) = some 118 := by kernel_rfl
theorem cells118 : Tryz.prog.cellsOf 118 = 64 := by kernel_rfl
theorem cells5 : Tryz.prog.cellsOf 5 = 1 := by kernel_rfl

/-- The numbers of the tables. -/
def tabZ0 : List Int := Lib.deBruijn32tab.map fun x : Nat => (x : Int)
def tabZ : List Int := Lib.deBruijn64tab.map fun x : Nat => (x : Int)
theorem table {W : World} (h : laidMetH Tryz.prog Rows.weighBestRow.laid W) : Lib.TabIs Tryz.prog W tabName .u8 tabZ :=
  Lib.tabIs_of_head (rest := []) gTab gTabType Tryz.underlying118 Tryz.underlying5 cells5 cells118 (laidMetH.filter (fun x => x.1 == tabName) h)
theorem tab_of {W : World} (h : laidMetH Tryz.prog Rows.weighBestRow.laid W) : Tab W := by
  intro j hj
  have hl : tabZ.length = 64 := by decide
  have hj' : j < 64 := hj
  have := (table h).cell gTab j (by rw [hl]; exact hj')
  rw [this]
  congr 2
  have : ∀ i : Fin 64, tabZ.getD i.val 0 = ((Lib.deBruijn64tab.getD i.val 0 : Nat) : Int) := by decide
  exact this ⟨j, hj'⟩

/-- A world for the witness: the settled one, with the tables in blocks 0 and 1. -/
def fillObj (zs : List Int) : Obj → Obj
  | .cells _ t frozen => .cells (zs.map fun x => Value.int .u8 x).toArray t frozen
  | o => o
noncomputable def laidWorld (os : Os) : World :=
  { World.holding Tryz.prog os ⟨#[], #[], []⟩ with heap := ((World.holding Tryz.prog os ⟨#[], #[], []⟩).heap.modify 0 (fillObj tabZ0)).modify 1 (fillObj tabZ) }

end Go.Proofs.YtohcnicadbpbbaaGreatDoor

namespace Go.Firn
open Go.RowKit Go.Deep Go.ChangeShapes

section
variable {H : Type} {enc : TypeId × Value → H} {P : Program} {w : World} {base : Nat} {held : Bool}

theorem IsRow.of_trod {S E : TypeId} {fuel : Nat} {v : Value} {x : DataW H × List MemPlace} (hS : P.underlying S = some (.slice E)) (hE : P.underlying E = some (.int .i64)) (cE : P.cellsOf E = 1)
    (h : DataW.trod enc P w base (fun _ => true) held fuel S [v] = some x) : ∃ a n c zs, v = .slice a n c ∧ IsRow w a n c zs := by
  rcases open_ints hS hE cE h with ⟨hcs, _⟩ | ⟨x, l, c, zs, hcs, _, hl, hm, hz, _, hcell, hwz⟩
  · simp only [List.cons.injEq, and_true] at hcs
    exact ⟨none, 0, 0, [], hcs, .inl ⟨rfl, rfl, rfl, rfl⟩⟩
  · simp only [List.cons.injEq, and_true] at hcs
    exact ⟨_, _, _, zs, hcs, .inr ⟨_, rfl, hl, hm, by simpa using hz, hcell, hwz⟩⟩

theorem open_two {r : Reach} {b0 : Nat} {t S E : TypeId} {f0 f1 : Field} {v : Value} {d : DataW H} {p : List MemPlace} (hs : P.underlying t = some (.struct #[f0, f1])) (hone : oneCellFields P #[f0, f1] = true) (hC : P.cellsOf t = 2)
    (h0 : f0.type = S) (h1 : f1.type = S) (hS : P.underlying S = some (.slice E)) (hE : P.underlying E = some (.int .i64)) (cE : P.cellsOf E = 1)
    (hv : Value.okWide P w r b0 t v) (h : DataW.Trod enc P w base (fun _ => true) held t v d p) :
    ∃ a n c zs a2 m d2 ys, v = .agg #[.slice a n c, .slice a2 m d2] ∧ IsRow w a n c zs ∧ IsRow w a2 m d2 ys := by
  obtain ⟨c0, c1, y0, y1, n, rfl, _, _, g0, g1⟩ := Joins.open_agg2 hs hone hC hv h
  rw [h0] at g0
  rw [h1] at g1
  obtain ⟨a, n, c, zs, rfl, k0⟩ := IsRow.of_trod hS hE cE g0
  obtain ⟨a2, m, d2, ys, rfl, k1⟩ := IsRow.of_trod hS hE cE g1
  exact ⟨a, n, c, zs, a2, m, d2, ys, rfl, k0, k1⟩
end

/-- What a walk is told of a struct of two slices of ints: nothing behind their lengths, and at most so long as a walk bears. -/
theorem IsRow.clip {w : World} {a : Option Addr} {n c : Nat} {zs : List Int} (h : IsRow w a n c zs) :
    n ≤ 9223372036854775807 ∧ n ≤ c ∧ c ≤ maxLen ∧ ∃ f : Nat → Int, (∀ i, n ≤ i → f i = 0) ∧ RdI w a n f := by
  have k := h.rd
  refine ⟨k.1, ?_, ?_, fun i => if i < n then zs.getD i 0 else 0, fun i hi => if_neg (by omega), k.2.congr fun i hi => by rw [if_pos hi]⟩
  · rcases h with ⟨rfl, rfl, rfl, rfl⟩ | ⟨x, rfl, hl, hm, _⟩
    · exact Nat.le_refl _
    · exact hl
  · rcases h with ⟨rfl, rfl, rfl, rfl⟩ | ⟨x, rfl, hl, hm, _⟩
    · unfold maxLen; omega
    · exact hm

end Go.Firn
