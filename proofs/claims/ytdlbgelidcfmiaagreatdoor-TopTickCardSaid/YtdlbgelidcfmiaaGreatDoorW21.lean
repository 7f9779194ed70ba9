/- Contracts of chapter 1: Inverse and Moved of the reference, and Less of ratios. -/
import Derived.Test.YtdlbgelidcfmiaaGreatDoorW20
namespace Go.Proofs.YtdlbgelidcfmiaaGreatDoor
open Go.RowKit Go.Firn

theorem mvB_of {n : Nat} {T : Nat → Int} {x : Int} (h2 : 2 ≤ n) (h : ∀ j, j < n → ¬ x < -(T j) ∧ ¬ 100000 - T j < x) : mvB n T x = true := by
  have a := h 0 (by omega)
  have b := h (n - 1) (by omega)
  rw [mvB, btw_true]
  omega

end Go.Proofs.YtdlbgelidcfmiaaGreatDoor
