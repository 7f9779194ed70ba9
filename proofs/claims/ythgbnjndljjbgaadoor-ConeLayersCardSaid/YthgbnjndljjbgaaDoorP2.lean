/- The members of a set of bits, in ascending order: taken off one by one from below, and gone over. -/
import Derived.Test.YthgbnjndljjbgaaDoorP1
import Derived.Lib.TrailingZeros
namespace Go.Firn

/-- The i < n with p i. -/
def els (p : Nat → Bool) (n : Nat) : List Nat := (List.range n).filter p
theorem els_zero (p : Nat → Bool) : els p 0 = [] := rfl
theorem els_succ (p : Nat → Bool) (n : Nat) : els p (n + 1) = els p n ++ (if p n then [n] else []) := by
  unfold els
  rw [List.range_succ, List.filter_append]
  congr 1
  by_cases h : p n = true <;> simp [h]
theorem els_length (p : Nat → Bool) (n : Nat) : (els p n).length = cnt p n := by
  induction n with
  | zero => rfl
  | succ n ih => rw [els_succ, List.length_append, ih, cnt]; split <;> rfl
theorem els_congr {p q : Nat → Bool} {n : Nat} (h : ∀ i, i < n → p i = q i) : els p n = els q n := by
  unfold els
  exact List.filter_congr fun i hi => h i (by simpa using hi)
theorem els_none {p : Nat → Bool} {n : Nat} (h : ∀ i, i < n → p i = false) : els p n = [] := by
  rw [els_congr h]
  unfold els
  simp
theorem els_more {p : Nat → Bool} {n m : Nat} (h : ∀ i, n ≤ i → p i = false) (hm : n ≤ m) : els p m = els p n := by
  induction m with
  | zero => have : n = 0 := by omega
            subst this; rfl
  | succ m ih =>
    rcases Nat.lt_or_ge m n with hn | hn
    · have : n = m + 1 := by omega
      subst this; rfl
    · rw [els_succ, ih hn, h m hn]; simp
theorem els_cons {p q : Nat → Bool} {n k : Nat} (hk : k < n) (hp : p k = true) (hlt : ∀ j, j < k → p j = false) (hq : ∀ j, q j = (p j && !decide (j = k))) : els p n = k :: els q n := by
  induction n with
  | zero => omega
  | succ n ih =>
    rw [els_succ, els_succ]
    by_cases h : k = n
    · subst h
      rw [els_none hlt, els_none (n := k) fun j hj => by rw [hq, hlt j hj]; rfl, hp, hq]
      simp
    · rw [ih (by omega), hq n]
      have : (decide (n = k)) = false := decide_eq_false fun x => h x.symm
      rw [this]
      simp
theorem els_mem {p : Nat → Bool} {n i : Nat} : i ∈ els p n ↔ i < n ∧ p i = true := by simp [els]
theorem els_lt {p : Nat → Bool} {n : Nat} {i : Nat} (h : i < (els p n).length) : (els p n).getD i 0 < n ∧ p ((els p n).getD i 0) = true := by
  have : (els p n).getD i 0 ∈ els p n := by rw [List.getD, List.getElem?_eq_getElem h]; exact List.getElem_mem h
  exact els_mem.1 this

/-- The lowest bit, and what is left without it. -/
theorem low_bit {s n : Nat} (h0 : s ≠ 0) (hs : s < 2 ^ n) : Lib.ctz n s < n ∧ s.testBit (Lib.ctz n s) = true ∧ (∀ j, j < Lib.ctz n s → s.testBit j = false) ∧ ∀ j, (s &&& (s - 1)).testBit j = (s.testBit j && !decide (j = Lib.ctz n s)) := by
  have hc : Lib.ctz n s = Lib.ctzFrom n s := by unfold Lib.ctz; rw [if_neg h0]
  obtain ⟨m, hm, hk⟩ := Lib.ctzFrom_spec n s (by omega) hs
  rw [hc]
  generalize Lib.ctzFrom n s = k at hm hk
  have b1 : ∀ j, s.testBit j = (decide (k ≤ j) && (2 * m + 1).testBit (j - k)) := fun j => by
    rw [hm, Nat.testBit_two_pow_mul]
  have hpos := Nat.two_pow_pos k
  have hs1 : s - 1 = 2 ^ k * (2 * m) + (2 ^ k - 1) := by rw [hm, Nat.mul_add]; omega
  have b2 : ∀ j, (s - 1).testBit j = if j < k then (2 ^ k - 1).testBit j else (2 * m).testBit (j - k) := fun j => by
    rw [hs1, Nat.testBit_two_pow_mul_add _ (by omega)]
  refine ⟨hk, ?_, fun j hj => ?_, fun j => ?_⟩
  · rw [b1]; simp
  · rw [b1]; simp; omega
  · rw [Nat.testBit_and, b2]
    by_cases hj : j < k
    · have : s.testBit j = false := by rw [b1]; simp; omega
      simp [this]
    · rw [if_neg hj]
      by_cases e : j = k
      · subst e; simp
      · have : s.testBit j = (2 * m).testBit (j - k) := by
          rw [b1]
          obtain ⟨d, hd⟩ : ∃ d, j - k = d + 1 := ⟨j - k - 1, by omega⟩
          rw [hd, Nat.testBit_succ, Nat.testBit_succ]
          have : (2 * m + 1) / 2 = 2 * m / 2 := by omega
          rw [this]
          simp; omega
        rw [this]
        simp [e]

theorem and_pred_lt {s : Nat} (h0 : s ≠ 0) : s &&& (s - 1) < s := Nat.lt_of_le_of_lt Nat.and_le_right (by omega)

/-- One member is taken off. -/
theorem els_step {s n : Nat} (h0 : s ≠ 0) (hs : s < 2 ^ n) : els s.testBit n = Lib.ctz n s :: els (s &&& (s - 1)).testBit n := by
  obtain ⟨h1, h2, h3, h4⟩ := low_bit h0 hs
  exact els_cons h1 h2 h3 h4
theorem els_nil (n : Nat) : els (0 : Nat).testBit n = [] := els_none fun i _ => by simp

end Go.Firn
