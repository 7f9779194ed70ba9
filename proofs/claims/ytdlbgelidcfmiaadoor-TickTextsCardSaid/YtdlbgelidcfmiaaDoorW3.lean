/- Contracts of chapter 1: ValidCounts of the program, ValidCounts and ValidReadings of the reference. -/
import Derived.Test.YtdlbgelidcfmiaaDoorW2
namespace Go.Proofs.YtdlbgelidcfmiaaDoor
open Go.RowKit Go.Firn

/-- Counts: as many as are let, each in range, none less than the one in front of it. -/
def vC (n : Nat) (f : Nat → Int) : Bool := btw 1 n 60 && !outB n f 1099511627776 && ascB n f
theorem vC_true {n : Nat} {f : Nat → Int} : vC n f = true ↔ 1 ≤ n ∧ n ≤ 60 ∧ (∀ i, i < n → 0 ≤ f i ∧ f i ≤ 1099511627776) ∧ ∀ i, i + 1 < n → f i ≤ f (i + 1) := by
  simp only [vC, Bool.and_eq_true, Bool.not_eq_true', btw_true, outB_false, ascB_true]
  constructor
  · rintro ⟨⟨⟨h1, h2⟩, h3⟩, h4⟩; exact ⟨by omega, by omega, h3, h4⟩
  · rintro ⟨h1, h2, h3, h4⟩; exact ⟨⟨⟨by omega, by omega⟩, h3⟩, h4⟩

theorem vC_false_of {n k : Nat} {f : Nat → Int} (hk : k < n) (h : f k < 0 ∨ 1099511627776 < f k ∨ ∃ j, k = j + 1 ∧ f k < f j) : vC n f = false := by
  cases e : vC n f with
  | false => rfl
  | true =>
    obtain ⟨_, _, h3, h4⟩ := vC_true.1 e
    rcases h with h | h | ⟨j, rfl, h⟩
    · have := h3 k hk; omega
    · have := h3 k hk; omega
    · have := h4 j hk; omega

/-- What the reference's loop has seen: the last of the first k numbers, 0 ahead of all. -/
def lastOf (f : Nat → Int) (k : Nat) : Int := if k = 0 then 0 else f (k - 1)

theorem vR_false_of {b : Int} {n k : Nat} {f : Nat → Int} (hk : k < n) (h : f k < 0 ∨ pw b ≤ f k) : vR b n f = false := by
  cases e : vR b n f with
  | false => rfl
  | true =>
    simp only [vR, Bool.and_eq_true, Bool.not_eq_true', outB_false] at e
    have := e.2 k hk
    omega
theorem vR_true {b : Int} {n : Nat} {f : Nat → Int} : vR b n f = true ↔ 4 ≤ b ∧ b ≤ 32 ∧ 1 ≤ n ∧ n ≤ 60 ∧ ∀ i, i < n → 0 ≤ f i ∧ f i < pw b := by
  simp only [vR, Bool.and_eq_true, Bool.not_eq_true', outB_false, isBits_true, btw_true]
  constructor
  · rintro ⟨⟨⟨h1, h2⟩, h3, h4⟩, h5⟩; exact ⟨h1, h2, by omega, by omega, fun i hi => by have := h5 i hi; omega⟩
  · rintro ⟨h1, h2, h3, h4, h5⟩; exact ⟨⟨⟨h1, h2⟩, by omega, by omega⟩, fun i hi => by have := h5 i hi; omega⟩

end Go.Proofs.YtdlbgelidcfmiaaDoor
