/- Whether two, or three, indexes are a witness; how many witnesses there are: the plain law. -/
import Derived.Test.YtbhndfnfohoidaaP5
namespace Go.Proofs.Ytbhndfnfohoidaa

theorem wit2 {n : Nat} {X : Nat → Int} {a b : Nat} (ha : a < n) (hb : b < n) (hab : a < b) : witB n X 2 (nf [a, b]) = decide (X a = X b) := by
  have e0 : nf [a, b] 0 = (a : Int) := rfl
  have e1 : nf [a, b] 1 = (b : Int) := rfl
  have h1 : ¬ (a : Int) = b := by omega
  unfold witB goodW goodAt anyI at_
  simp only [List.range_succ, e0, e1]
  rw [Bool.eq_iff_iff]
  simp
  omega
theorem wit3 {n : Nat} {X : Nat → Int} {a b c : Nat} (ha : a < n) (hb : b < n) (hc : c < n) : witB n X 3 (nf [a, b, c]) = decide (X a < X b ∧ X b < X c) := by
  have e0 : nf [a, b, c] 0 = (a : Int) := rfl
  have e1 : nf [a, b, c] 1 = (b : Int) := rfl
  have e2 : nf [a, b, c] 2 = (c : Int) := rfl
  by_cases h : X a < X b ∧ X b < X c
  · have h1 : a ≠ b := fun e => by subst e; have := h.1; omega
    have h2 : b ≠ c := fun e => by subst e; have := h.2; omega
    have h3 : a ≠ c := fun e => by subst e; have := h.1; have := h.2; omega
    rw [decide_eq_true h]
    unfold witB goodW goodAt anyI at_
    simp [List.range_succ, e0, e1, e2, h.1, h.2]
    omega
  · rw [decide_eq_false h]
    unfold witB at_
    rw [e0, e1, e2]
    simp only [Int.toNat_natCast]
    by_cases g : X a < X b
    · have : ¬ X b < X c := fun k => h ⟨g, k⟩
      simp [this]
    · simp [g]
theorem row2_len (X : Nat → Int) (a : Nat) : ∀ b, (row2 X a b).length ≤ b
  | 0 => Nat.le_refl _
  | b + 1 => by
    have := row2_len X a b
    rw [row2, List.length_append]
    split
    · simp; omega
    · simp; omega
theorem pr2_len (X : Nat → Int) (n : Nat) : ∀ a, (pr2 X n a).length ≤ a * n
  | 0 => by simp [pr2]
  | a + 1 => by
    have := pr2_len X n a
    have := row2_len X a n
    rw [pr2, List.length_append, Nat.succ_mul]
    omega
theorem row3_len (X : Nat → Int) (a b : Nat) : ∀ c, (row3 X a b c).length ≤ c
  | 0 => Nat.le_refl _
  | c + 1 => by
    have := row3_len X a b c
    rw [row3, List.length_append]
    split
    · simp; omega
    · simp; omega
theorem pl3_len (X : Nat → Int) (n a : Nat) : ∀ b, (pl3 X n a b).length ≤ b * n
  | 0 => by simp [pl3]
  | b + 1 => by
    have := pl3_len X n a b
    have := row3_len X a b n
    rw [pl3, List.length_append, Nat.succ_mul]
    omega
theorem cub_len (X : Nat → Int) (n : Nat) : ∀ a, (cub X n a).length ≤ a * (n * n)
  | 0 => by simp [cub]
  | a + 1 => by
    have := cub_len X n a
    have := pl3_len X n a n
    rw [cub, List.length_append, Nat.succ_mul]
    omega
theorem small12 {n : Nat} (hn : n ≤ 12) : n * n ≤ 144 ∧ n * (n * n) ≤ 1728 := by
  have h1 : n * n ≤ 12 * 12 := Nat.mul_le_mul hn hn
  have h2 : n * (n * n) ≤ 12 * 144 := Nat.mul_le_mul hn (by omega)
  omega
theorem pre2_len {n : Nat} {X : Nat → Int} (hn : n ≤ 12) {a b : Nat} (ha : a < n) (hb : b ≤ n) : (pr2 X n a ++ row2 X a b).length < 1000000 := by
  have h1 := pr2_len X n a
  have h2 := row2_len X a b
  have h3 : a * n ≤ n * n := Nat.mul_le_mul_right _ (by omega)
  have := small12 hn
  rw [List.length_append]
  omega
theorem pre3_len {n : Nat} {X : Nat → Int} (hn : n ≤ 12) {a b c : Nat} (ha : a < n) (hb : b < n) (hc : c ≤ n) : (pr2 X n n ++ (cub X n a ++ (pl3 X n a b ++ row3 X a b c))).length < 1000000 := by
  have h1 := pr2_len X n n
  have h2 := cub_len X n a
  have h3 := pl3_len X n a b
  have h4 := row3_len X a b c
  have h5 : a * (n * n) ≤ n * (n * n) := Nat.mul_le_mul_right _ (by omega)
  have h6 : b * n ≤ n * n := Nat.mul_le_mul_right _ (by omega)
  have := small12 hn
  simp only [List.length_append]
  omega
theorem wits_len {n : Nat} {X : Nat → Int} (hn : n ≤ 12) : (wits n X).length < 1000000 := by
  have h1 := pr2_len X n n
  have h2 := cub_len X n n
  have := small12 hn
  unfold wits
  rw [List.length_append]
  omega
end Go.Proofs.Ytbhndfnfohoidaa
