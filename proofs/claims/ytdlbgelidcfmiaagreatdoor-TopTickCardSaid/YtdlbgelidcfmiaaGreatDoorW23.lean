/- Contracts of chapter 1: the least and the greatest ratio of a list. -/
import Derived.Test.YtdlbgelidcfmiaaGreatDoorW22
import Derived.Deep.RegionHeld3
namespace Go.Proofs.YtdlbgelidcfmiaaGreatDoor
open Go.RowKit Go.Firn

/-- The index of the first least, and of the first greatest, of the ratios up to k. -/
def mnI (f g : Nat → Int) : Nat → Nat
  | 0 => 0
  | k + 1 => if f (k + 1) * g (mnI f g k) < f (mnI f g k) * g (k + 1) then k + 1 else mnI f g k
def mxI (f g : Nat → Int) : Nat → Nat
  | 0 => 0
  | k + 1 => if f (mxI f g k) * g (k + 1) < f (k + 1) * g (mxI f g k) then k + 1 else mxI f g k
theorem mnI_le (f g : Nat → Int) : ∀ k, mnI f g k ≤ k
  | 0 => Nat.le_refl _
  | k + 1 => by unfold mnI; split <;> have := mnI_le f g k <;> omega
theorem mxI_le (f g : Nat → Int) : ∀ k, mxI f g k ≤ k
  | 0 => Nat.le_refl _
  | k + 1 => by unfold mxI; split <;> have := mxI_le f g k <;> omega
theorem mnI_yes {f g : Nat → Int} {k : Nat} (h : 1 ≤ k) (e : f k * g (mnI f g (k - 1)) < f (mnI f g (k - 1)) * g k) : mnI f g k = k := by
  obtain ⟨j, rfl⟩ : ∃ j, k = j + 1 := ⟨k - 1, by omega⟩
  exact if_pos e
theorem mnI_no {f g : Nat → Int} {k : Nat} (h : 1 ≤ k) (e : ¬ f k * g (mnI f g (k - 1)) < f (mnI f g (k - 1)) * g k) : mnI f g k = mnI f g (k - 1) := by
  obtain ⟨j, rfl⟩ : ∃ j, k = j + 1 := ⟨k - 1, by omega⟩
  exact if_neg e
theorem mxI_yes {f g : Nat → Int} {k : Nat} (h : 1 ≤ k) (e : f (mxI f g (k - 1)) * g k < f k * g (mxI f g (k - 1))) : mxI f g k = k := by
  obtain ⟨j, rfl⟩ : ∃ j, k = j + 1 := ⟨k - 1, by omega⟩
  exact if_pos e
theorem mxI_no {f g : Nat → Int} {k : Nat} (h : 1 ≤ k) (e : ¬ f (mxI f g (k - 1)) * g k < f k * g (mxI f g (k - 1))) : mxI f g k = mxI f g (k - 1) := by
  obtain ⟨j, rfl⟩ : ∃ j, k = j + 1 := ⟨k - 1, by omega⟩
  exact if_neg e

theorem cf77 (args : Array Value) (wz : World) : (callFunc 46 args).run Tryz.prog wz = .ok (.enter 46 args) wz := by kernel_rfl

end Go.Proofs.YtdlbgelidcfmiaaGreatDoor
