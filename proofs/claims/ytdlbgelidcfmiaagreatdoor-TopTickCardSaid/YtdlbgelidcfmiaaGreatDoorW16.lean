/- Contracts of chapter 1: at, At and Speed of the reference. -/
import Derived.Test.YtdlbgelidcfmiaaGreatDoorW15
namespace Go.Proofs.YtdlbgelidcfmiaaGreatDoor
open Go.RowKit Go.Firn

/-- The clock's bounds at the line at x. -/
theorem line_bd {n : Nat} {L T : Nat → Int} (hv : vK n L T = true) (p : Nat → Bool) :
    (0 ≤ L (ix p n) ∧ L (ix p n) ≤ 100000) ∧ (0 ≤ T (ix p n) ∧ T (ix p n) ≤ 100000) ∧ (0 ≤ L (ix p n + 1) ∧ L (ix p n + 1) ≤ 100000) ∧ (0 ≤ T (ix p n + 1) ∧ T (ix p n + 1) ≤ 100000) ∧ L (ix p n) < L (ix p n + 1) ∧ T (ix p n) < T (ix p n + 1) := by
  obtain ⟨h2, _, hb, hs⟩ := vK_true.1 hv
  have hi := ix_lt h2 p
  have b1 := hb _ hi
  have b0 := hb (ix p n) (by omega)
  have := hs _ hi
  omega

end Go.Proofs.YtdlbgelidcfmiaaGreatDoor
