/- Lines through two points, in their least numbers, and rests: the plain laws. -/
import Derived.Test.YtbhndfnfohoidaaP1
namespace Go.Proofs.Ytbhndfnfohoidaa

/-- The absolute value. -/
def ab (x : Int) : Int := (x.natAbs : Int)
theorem ab_cases (x : Int) : (0 ≤ x ∧ ab x = x) ∨ (x < 0 ∧ ab x = -x) := by unfold ab; omega
theorem ab_nonneg (x : Int) : 0 ≤ ab x := by unfold ab; omega
theorem ab_neg (x : Int) : ab (-x) = ab x := by unfold ab; omega
theorem ab_mul (x y : Int) : ab (x * y) = ab x * ab y := by unfold ab; rw [Int.natAbs_mul, Int.natCast_mul]

/-- A product of bounded numbers. -/
theorem mul_bd {a b A B : Int} (h1 : -A ≤ a) (h2 : a ≤ A) (h3 : -B ≤ b) (h4 : b ≤ B) : -(A * B) ≤ a * b ∧ a * b ≤ A * B := by
  have hA : 0 ≤ A := by omega
  have hB : 0 ≤ B := by omega
  have e : (a * b).natAbs ≤ (A * B).natAbs := by
    rw [Int.natAbs_mul, Int.natAbs_mul]
    exact Nat.mul_le_mul (by omega) (by omega)
  have : 0 ≤ A * B := Int.mul_nonneg hA hB
  omega

/-- The divisor of a line's numbers, with the sign of d. -/
def gk (a b d : Int) : Int := if d < 0 then -(Int.gcd (Int.gcd a b) d : Int) else (Int.gcd (Int.gcd a b) d : Int)
/-- The line (a x + b) / d in its least numbers. -/
def mkA (a b d : Int) : Int := a / gk a b d
def mkB (a b d : Int) : Int := b / gk a b d
def mkD (a b d : Int) : Int := d / gk a b d

theorem g3_dvd (a b d : Int) : (Int.gcd (Int.gcd a b) d : Int) ∣ a ∧ (Int.gcd (Int.gcd a b) d : Int) ∣ b ∧ (Int.gcd (Int.gcd a b) d : Int) ∣ d :=
  ⟨Int.dvd_trans (Int.gcd_dvd_left _ _) (Int.gcd_dvd_left a b), Int.dvd_trans (Int.gcd_dvd_left _ _) (Int.gcd_dvd_right a b), Int.gcd_dvd_right _ _⟩
theorem g3_pos {d : Int} (a b : Int) (hd : d ≠ 0) : 0 < (Int.gcd (Int.gcd a b) d : Int) := by
  have : Int.gcd (Int.gcd a b) d ≠ 0 := fun h => hd (Int.gcd_eq_zero_iff.1 h).2
  omega
theorem gk_dvd (a b d : Int) : gk a b d ∣ a ∧ gk a b d ∣ b ∧ gk a b d ∣ d := by
  obtain ⟨h1, h2, h3⟩ := g3_dvd a b d
  unfold gk
  split
  · exact ⟨Int.neg_dvd.2 h1, Int.neg_dvd.2 h2, Int.neg_dvd.2 h3⟩
  · exact ⟨h1, h2, h3⟩
theorem gk_ne {d : Int} (a b : Int) (hd : d ≠ 0) : gk a b d ≠ 0 := by
  have := g3_pos a b hd
  unfold gk
  split <;> omega
theorem mkA_mul (a b d : Int) : mkA a b d * gk a b d = a := Int.ediv_mul_cancel (gk_dvd a b d).1
theorem mkB_mul (a b d : Int) : mkB a b d * gk a b d = b := Int.ediv_mul_cancel (gk_dvd a b d).2.1
theorem mkD_mul (a b d : Int) : mkD a b d * gk a b d = d := Int.ediv_mul_cancel (gk_dvd a b d).2.2
theorem mkA_tdiv (a b d : Int) : a.tdiv (gk a b d) = mkA a b d := Int.tdiv_eq_ediv_of_dvd (gk_dvd a b d).1
theorem mkB_tdiv (a b d : Int) : b.tdiv (gk a b d) = mkB a b d := Int.tdiv_eq_ediv_of_dvd (gk_dvd a b d).2.1
theorem mkD_tdiv (a b d : Int) : d.tdiv (gk a b d) = mkD a b d := Int.tdiv_eq_ediv_of_dvd (gk_dvd a b d).2.2
theorem quo_abs {x k q : Int} (hk : k ≠ 0) (h : q * k = x) : q.natAbs ≤ x.natAbs := by
  have : q.natAbs * k.natAbs = x.natAbs := by rw [← Int.natAbs_mul, h]
  have := Nat.le_mul_of_pos_right q.natAbs (show 0 < k.natAbs by omega)
  omega
theorem mk_abs {d : Int} (a b : Int) (hd : d ≠ 0) : (mkA a b d).natAbs ≤ a.natAbs ∧ (mkB a b d).natAbs ≤ b.natAbs ∧ (mkD a b d).natAbs ≤ d.natAbs :=
  ⟨quo_abs (gk_ne a b hd) (mkA_mul a b d), quo_abs (gk_ne a b hd) (mkB_mul a b d), quo_abs (gk_ne a b hd) (mkD_mul a b d)⟩
theorem mkD_pos {d : Int} (a b : Int) (hd : d ≠ 0) : 0 < mkD a b d := by
  have h := mkD_mul a b d
  have g := g3_pos a b hd
  unfold gk at h
  split at h
  · rcases Int.lt_or_le 0 (mkD a b d) with h1 | h1
    · exact h1
    · have : 0 ≤ mkD a b d * -(Int.gcd (Int.gcd a b) d : Int) := by
        rw [Int.mul_neg, ← Int.neg_mul]
        exact Int.mul_nonneg (by omega) (by omega)
      omega
  · rcases Int.lt_or_le 0 (mkD a b d) with h1 | h1
    · exact h1
    · have : 0 ≤ -mkD a b d * (Int.gcd (Int.gcd a b) d : Int) := Int.mul_nonneg (by omega) (by omega)
      rw [Int.neg_mul] at this
      omega
theorem gk_neg {d : Int} (a b : Int) (hd : d ≠ 0) : gk (-a) (-b) (-d) = -gk a b d := by
  have e : (Int.gcd (Int.gcd (-a) (-b)) (-d)) = Int.gcd (Int.gcd a b) d := by
    unfold Int.gcd
    simp only [Int.natAbs_neg, Int.natAbs_natCast]
  unfold gk
  rw [e]
  by_cases h : d < 0
  · rw [if_pos h, if_neg (by omega)]; omega
  · rw [if_neg h, if_pos (by omega)]
theorem mk_neg {d : Int} (a b : Int) (hd : d ≠ 0) : mkA (-a) (-b) (-d) = mkA a b d ∧ mkB (-a) (-b) (-d) = mkB a b d ∧ mkD (-a) (-b) (-d) = mkD a b d := by
  unfold mkA mkB mkD
  obtain ⟨h1, h2, h3⟩ := gk_dvd a b d
  rw [gk_neg a b hd, Int.ediv_neg, Int.ediv_neg, Int.ediv_neg, Int.neg_ediv_of_dvd h1, Int.neg_ediv_of_dvd h2, Int.neg_ediv_of_dvd h3]
  omega

/-- The numbers of the line through two points. -/
def rwA (_x1 y1 _x2 y2 : Int) : Int := y2 - y1
def rwB (x1 y1 x2 y2 : Int) : Int := y1 * (x2 - x1) - (y2 - y1) * x1
def rwD (x1 _y1 x2 _y2 : Int) : Int := x2 - x1
def thA (x1 y1 x2 y2 : Int) : Int := mkA (rwA x1 y1 x2 y2) (rwB x1 y1 x2 y2) (rwD x1 y1 x2 y2)
def thB (x1 y1 x2 y2 : Int) : Int := mkB (rwA x1 y1 x2 y2) (rwB x1 y1 x2 y2) (rwD x1 y1 x2 y2)
def thD (x1 y1 x2 y2 : Int) : Int := mkD (rwA x1 y1 x2 y2) (rwB x1 y1 x2 y2) (rwD x1 y1 x2 y2)
theorem rw_swap (x1 y1 x2 y2 : Int) : rwA x2 y2 x1 y1 = -rwA x1 y1 x2 y2 ∧ rwB x2 y2 x1 y1 = -rwB x1 y1 x2 y2 ∧ rwD x2 y2 x1 y1 = -rwD x1 y1 x2 y2 := by
  unfold rwA rwB rwD
  refine ⟨by omega, ?_, by omega⟩
  grind
theorem th_swap {x1 y1 x2 y2 : Int} (h : x1 ≠ x2) : thA x2 y2 x1 y1 = thA x1 y1 x2 y2 ∧ thB x2 y2 x1 y1 = thB x1 y1 x2 y2 ∧ thD x2 y2 x1 y1 = thD x1 y1 x2 y2 := by
  obtain ⟨h1, h2, h3⟩ := rw_swap x1 y1 x2 y2
  unfold thA thB thD
  rw [h1, h2, h3]
  exact mk_neg _ _ (by unfold rwD; omega)

/-- A point in range. -/
def InP (x y : Int) : Prop := (-100 ≤ x ∧ x ≤ 100) ∧ -1000 ≤ y ∧ y ≤ 1000
theorem rw_bd {x1 y1 x2 y2 : Int} (h1 : InP x1 y1) (h2 : InP x2 y2) : (-2000 ≤ rwA x1 y1 x2 y2 ∧ rwA x1 y1 x2 y2 ≤ 2000) ∧ (-400000 ≤ rwB x1 y1 x2 y2 ∧ rwB x1 y1 x2 y2 ≤ 400000) ∧ -200 ≤ rwD x1 y1 x2 y2 ∧ rwD x1 y1 x2 y2 ≤ 200 := by
  obtain ⟨⟨a1, a2⟩, a3, a4⟩ := h1
  obtain ⟨⟨b1, b2⟩, b3, b4⟩ := h2
  have m1 := mul_bd (a := y1) (b := x2 - x1) (A := 1000) (B := 200) (by omega) (by omega) (by omega) (by omega)
  have m2 := mul_bd (a := y2 - y1) (b := x1) (A := 2000) (B := 100) (by omega) (by omega) (by omega) (by omega)
  unfold rwA rwB rwD
  omega
theorem th_bd {x1 y1 x2 y2 : Int} (h1 : InP x1 y1) (h2 : InP x2 y2) (h : x1 ≠ x2) : (-2000 ≤ thA x1 y1 x2 y2 ∧ thA x1 y1 x2 y2 ≤ 2000) ∧ (-400000 ≤ thB x1 y1 x2 y2 ∧ thB x1 y1 x2 y2 ≤ 400000) ∧ 0 < thD x1 y1 x2 y2 ∧ thD x1 y1 x2 y2 ≤ 200 := by
  have hd : rwD x1 y1 x2 y2 ≠ 0 := by unfold rwD; omega
  obtain ⟨a, b, c⟩ := rw_bd h1 h2
  obtain ⟨p, q, r⟩ := mk_abs (rwA x1 y1 x2 y2) (rwB x1 y1 x2 y2) hd
  have := mkD_pos (rwA x1 y1 x2 y2) (rwB x1 y1 x2 y2) hd
  unfold thA thB thD
  omega

/-- The rest of a point, times the D of the line. -/
def rs (x y A B D : Int) : Int := y * D - A * x - B
/-- A line in range. -/
def InL (A B D : Int) : Prop := (-1000000 ≤ A ∧ A ≤ 1000000) ∧ (-100000000 ≤ B ∧ B ≤ 100000000) ∧ 1 ≤ D ∧ D ≤ 10000
theorem th_in {x1 y1 x2 y2 : Int} (h1 : InP x1 y1) (h2 : InP x2 y2) (h : x1 ≠ x2) : InL (thA x1 y1 x2 y2) (thB x1 y1 x2 y2) (thD x1 y1 x2 y2) := by
  have := th_bd h1 h2 h
  unfold InL
  omega
theorem rs_bd {x y A B D : Int} (h1 : InP x y) (h2 : InL A B D) : (-10000000 ≤ y * D ∧ y * D ≤ 10000000) ∧ (-100000000 ≤ A * x ∧ A * x ≤ 100000000) ∧ -210000000 ≤ rs x y A B D ∧ rs x y A B D ≤ 210000000 := by
  obtain ⟨⟨a1, a2⟩, a3, a4⟩ := h1
  obtain ⟨⟨b1, b2⟩, ⟨b3, b4⟩, b5, b6⟩ := h2
  have m1 := mul_bd (a := y) (b := D) (A := 1000) (B := 10000) (by omega) (by omega) (by omega) (by omega)
  have m2 := mul_bd (a := A) (b := x) (A := 1000000) (B := 100) (by omega) (by omega) (by omega) (by omega)
  unfold rs
  omega

end Go.Proofs.Ytbhndfnfohoidaa
