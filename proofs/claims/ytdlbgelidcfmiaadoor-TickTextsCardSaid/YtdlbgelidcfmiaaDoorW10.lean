/- Contracts of chapter 1: the greatest common divisor and the fraction in lowest terms, of the program and of the reference. -/
import Derived.Test.YtdlbgelidcfmiaaDoorW8
import Derived.Test.YtdlbgelidcfmiaaDoorP4
import Derived.BigRegion
namespace Go.Proofs.YtdlbgelidcfmiaaDoor
open Go.RowKit Go.Firn

def RetDI (v : Int) (w : World) (e : Ending) (w' : World) : Prop := e = .returned (.int .i64 v) ∧ ∃ m, w' = w.drewN m
/-- A ratio. -/
def RetR (n d : Int) (w : World) (e : Ending) (w' : World) : Prop := e = .returned (.agg #[.int .i64 n, .int .i64 d]) ∧ Gr w w'
/-- A ratio and an error. -/
def RetRE (n d err : Int) (w : World) (e : Ending) (w' : World) : Prop := e = .returned (.tuple #[.agg #[.int .i64 n, .int .i64 d], .int .i64 err]) ∧ Gr w w'

/-- The size that a walk bears. -/
def Sz (a : Int) : Prop := -4611686018427387904 ≤ a ∧ a ≤ 4611686018427387904
theorem Sz.of {a : Int} (h1 : -4611686018427387904 ≤ a) (h2 : a ≤ 4611686018427387904) : Sz a := ⟨h1, h2⟩

theorem sz_tmod {a b : Int} (ha : Sz a) : Sz (a.tmod b) := by
  have h := Int.natAbs_tmod a b
  have h2 := Nat.mod_le a.natAbs b.natAbs
  unfold Sz at *
  omega

theorem tmod_nonneg {a b : Int} (ha : 0 ≤ a) : 0 ≤ a.tmod b := by
  rw [Int.tmod_eq_emod_of_nonneg ha]
  by_cases h : b = 0
  · rw [h, Int.emod_zero]; exact ha
  · exact Int.emod_nonneg _ h

end Go.Proofs.YtdlbgelidcfmiaaDoor
