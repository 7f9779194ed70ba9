/- What the two loops that lay an order have come to. -/
import Derived.Test.YthgbnjndljjbgaaDoorP3
namespace Go.Firn

/-- What is before the hits: of the hits below A, and of A for the hits below B. -/
def pastP (P T : Nat → Int) (A B i : Nat) : Nat := mk (fun a => bf P T a i) A ||| (if i < B ∧ bf P T A i = true then 2 ^ A else 0)
def futP (n : Nat) (P T : Nat → Int) (A B i : Nat) : Nat := if i < A then futM n P T i else if i = A then mk (fun b => bf P T A b) B else 0

theorem pastP_zero (P T : Nat → Int) (i : Nat) : pastP P T 0 0 i = 0 := by simp [pastP, mk]
theorem futP_zero (n : Nat) (P T : Nat → Int) (i : Nat) : futP n P T 0 0 i = 0 := by simp [futP, mk]
theorem pastP_next {n : Nat} {P T : Nat → Int} {A i : Nat} (hi : i < n) : pastP P T A n i = pastP P T (A + 1) 0 i := by
  unfold pastP
  simp only [hi, true_and, Nat.not_lt_zero, false_and, if_false, Nat.or_zero]
  rfl
theorem futP_next {n : Nat} {P T : Nat → Int} {A i : Nat} : futP n P T A n i = futP n P T (A + 1) 0 i := by
  unfold futP
  by_cases h : i < A
  · rw [if_pos h, if_pos (by omega)]
  · by_cases e : i = A
    · rw [if_neg h, if_pos e, if_pos (by omega), e]; rfl
    · rw [if_neg h, if_neg e, if_neg (by omega)]
      by_cases e2 : i = A + 1
      · rw [if_pos e2]; rfl
      · rw [if_neg e2]
theorem pastP_end {n : Nat} {P T : Nat → Int} {i : Nat} : pastP P T n 0 i = pastM n P T i := by
  unfold pastP pastM
  simp
theorem futP_end {n : Nat} {P T : Nat → Int} {i : Nat} (hi : i < n) : futP n P T n 0 i = futM n P T i := by
  unfold futP
  rw [if_pos hi]
theorem pastP_yes {P T : Nat → Int} {A B i : Nat} (h : bf P T A B = true) : (if i = B then pastP P T A B B ||| 2 ^ A else pastP P T A B i) = pastP P T A (B + 1) i := by
  by_cases e : i = B
  · subst e
    rw [if_pos rfl]
    unfold pastP
    rw [if_neg (by omega), if_pos ⟨by omega, h⟩]
    simp
  · rw [if_neg e]
    unfold pastP
    have : (i < B ∧ bf P T A i = true) ↔ (i < B + 1 ∧ bf P T A i = true) := by
      constructor
      · rintro ⟨h1, h2⟩; exact ⟨by omega, h2⟩
      · rintro ⟨h1, h2⟩; exact ⟨by omega, h2⟩
    simp only [this]
theorem futP_yes {n : Nat} {P T : Nat → Int} {A B i : Nat} (h : bf P T A B = true) : (if i = A then futP n P T A B A ||| 2 ^ B else futP n P T A B i) = futP n P T A (B + 1) i := by
  by_cases e : i = A
  · subst e
    rw [if_pos rfl]
    unfold futP
    rw [if_neg (by omega), if_pos rfl, if_neg (by omega), if_pos rfl, mk, h]
    simp
  · rw [if_neg e]
    unfold futP
    rw [if_neg e, if_neg e]
theorem pastP_no {P T : Nat → Int} {A B i : Nat} (h : bf P T A B = false) : pastP P T A B i = pastP P T A (B + 1) i := by
  unfold pastP
  have : (i < B ∧ bf P T A i = true) ↔ (i < B + 1 ∧ bf P T A i = true) := by
    constructor
    · rintro ⟨h1, h2⟩; exact ⟨by omega, h2⟩
    · rintro ⟨h1, h2⟩
      refine ⟨?_, h2⟩
      by_cases e : i = B
      · subst e; rw [h] at h2; cases h2
      · omega
  simp only [this]
theorem futP_no {n : Nat} {P T : Nat → Int} {A B i : Nat} (h : bf P T A B = false) : futP n P T A B i = futP n P T A (B + 1) i := by
  unfold futP
  by_cases e : i = A
  · subst e
    rw [if_neg (by omega), if_pos rfl, if_neg (by omega), if_pos rfl, mk, h]
    simp
  · rw [if_neg e, if_neg e]
theorem pastP_lt {n : Nat} {P T : Nat → Int} {A B i : Nat} (hn : n ≤ 14) (hA : A < n) : pastP P T A B i < 65536 := by
  have h1 := mk_lt (fun a => bf P T a i) A
  have h2 : 2 ^ A ≤ 2 ^ 14 := Nat.pow_le_pow_right (by omega) (by omega)
  unfold pastP
  refine Nat.lt_of_lt_of_le (Nat.or_lt_two_pow (n := 16) (by omega) ?_) (Nat.le_refl _)
  split <;> omega
theorem futP_lt {n : Nat} {P T : Nat → Int} {A B i : Nat} (hn : n ≤ 14) (hB : B ≤ n) : futP n P T A B i < 65536 := by
  have h2 : ∀ k, k ≤ n → (2 : Nat) ^ k ≤ 2 ^ 14 := fun k hk => Nat.pow_le_pow_right (by omega) (by omega)
  unfold futP
  split
  · have h1 := mk_lt (fun b => bf P T i b) n
    have := h2 n (Nat.le_refl _)
    unfold futM
    omega
  · split
    · have h1 := mk_lt (fun b => bf P T A b) B
      have := h2 B hB
      omega
    · omega
theorem pastM_lt {n : Nat} {P T : Nat → Int} (hn : n ≤ 14) (i : Nat) : pastM n P T i < 16384 := by
  have h1 := mk_lt (fun a => bf P T a i) n
  have : (2 : Nat) ^ n ≤ 2 ^ 14 := Nat.pow_le_pow_right (by omega) hn
  unfold pastM
  omega
theorem futM_lt {n : Nat} {P T : Nat → Int} (hn : n ≤ 14) (i : Nat) : futM n P T i < 16384 := by
  have h1 := mk_lt (fun b => bf P T i b) n
  have : (2 : Nat) ^ n ≤ 2 ^ 14 := Nat.pow_le_pow_right (by omega) hn
  unfold futM
  omega


theorem cnt_small {s n m : Nat} (hs : s < 2 ^ n) (hm : n ≤ m) : cnt s.testBit m = cnt s.testBit n := by
  rw [← els_length, ← els_length, els_more (fun i hi => bit_ge hs hi) hm]
theorem srch_lt {n : Nat} (K : Nat → Nat) : ∀ (k i s best : Nat), i + k = n → s < 2 ^ n → best < 2 ^ n → srch n K k i s best < 2 ^ n := by
  intro k
  induction k with
  | zero => intro i s best _ hs hb; rw [srch]; split <;> assumption
  | succ k ih =>
    intro i s best hn hs hb
    rw [srch]
    split
    · exact hb
    · refine ih _ _ _ (by omega) hs ?_
      split
      · refine ih _ _ _ (by omega) (Nat.or_lt_two_pow hs ?_) hb
        exact Nat.pow_lt_pow_right (by omega) (by omega)
      · exact hb

end Go.Firn
