/- Plain arithmetic of fractions in lowest terms. Lines through two points, in their least numbers, and rests: the plain laws. Witnesses, and what they tell: the plain law. All witnesses, in their order, told one by one. The first witness that tells most: the plain law of its search. Whether two, or three, indexes are a witness; how many witnesses there are: the plain law. -/

namespace Go.Proofs.Ytbhndfnfohoidaa

theorem gcd_step (a b : Int) : Int.gcd b (a.tmod b) = Int.gcd a b := by
  show Nat.gcd b.natAbs (a.tmod b).natAbs = Nat.gcd a.natAbs b.natAbs
  rw [Int.natAbs_tmod, Nat.gcd_comm a.natAbs b.natAbs, Nat.gcd_rec b.natAbs a.natAbs, Nat.gcd_comm]
theorem tmod_bd (a : Int) {b : Int} (hb : b ≠ 0) : (a.tmod b).natAbs < b.natAbs := by
  rw [Int.natAbs_tmod]; exact Nat.mod_lt _ (by omega)

/-- The fraction n / d (d above 0) in lowest terms. -/
def rN (n d : Int) : Int := n / (Int.gcd n d : Int)
def rD (n d : Int) : Int := d / (Int.gcd n d : Int)

theorem gcd_pos {d : Int} (n : Int) (hd : 0 < d) : 0 < (Int.gcd n d : Int) := by
  have : Int.gcd n d ≠ 0 := by
    intro h
    have := (Int.gcd_eq_zero_iff.1 h).2
    omega
  omega
theorem rN_mul (n d : Int) : rN n d * (Int.gcd n d : Int) = n := Int.ediv_mul_cancel (Int.gcd_dvd_left n d)
theorem rD_mul (n d : Int) : rD n d * (Int.gcd n d : Int) = d := Int.ediv_mul_cancel (Int.gcd_dvd_right n d)
theorem rD_pos {d : Int} (n : Int) (hd : 0 < d) : 0 < rD n d := by
  have h := rD_mul n d
  have g := gcd_pos n hd
  rcases Int.lt_trichotomy (rD n d) 0 with h1 | h1 | h1
  · have := Int.mul_neg_of_neg_of_pos h1 g; omega
  · rw [h1, Int.zero_mul] at h; omega
  · exact h1
theorem rD_le {d : Int} (n : Int) (hd : 0 < d) : rD n d ≤ d := Int.ediv_le_self _ (by omega)
theorem rN_nonneg {n d : Int} (h : 0 ≤ n) : 0 ≤ rN n d := Int.ediv_nonneg h (Int.natCast_nonneg _)
theorem rN_le {n d : Int} (h : 0 ≤ n) : rN n d ≤ n := Int.ediv_le_self _ h
theorem rN_abs {n d : Int} (hd : 0 < d) : (rN n d).natAbs ≤ n.natAbs := by
  have h := rN_mul n d
  have g := gcd_pos n hd
  have : (rN n d).natAbs * (Int.gcd n d) = n.natAbs := by
    have := congrArg Int.natAbs h
    rwa [Int.natAbs_mul, Int.natAbs_natCast] at this
  have := Nat.le_mul_of_pos_right (rN n d).natAbs (show 0 < Int.gcd n d by omega)
  omega
theorem rN_tdiv (n d : Int) : n.tdiv (Int.gcd n d : Int) = rN n d := Int.tdiv_eq_ediv_of_dvd (Int.gcd_dvd_left n d)
theorem rD_tdiv (n d : Int) : d.tdiv (Int.gcd n d : Int) = rD n d := Int.tdiv_eq_ediv_of_dvd (Int.gcd_dvd_right n d)

/-- The value is the same: (n / d) * d' .. -/
theorem red_mul (n d : Int) : rN n d * d = n * rD n d := by
  have h1 := rN_mul n d
  have h2 := rD_mul n d
  calc rN n d * d = rN n d * (rD n d * (Int.gcd n d : Int)) := by rw [h2]
    _ = rN n d * (Int.gcd n d : Int) * rD n d := by rw [Int.mul_comm (rD n d), Int.mul_assoc]
    _ = n * rD n d := by rw [h1]

theorem red_cop {n d : Int} (hd : 0 < d) : (rN n d).gcd (rD n d) = 1 := Int.gcd_ediv_gcd_ediv_gcd (by have := gcd_pos n hd; omega)

theorem cop_eq {N D N' D' : Int} (h1 : N.gcd D = 1) (h2 : N'.gcd D' = 1) (p1 : 0 < D) (p2 : 0 < D') (h : N * D' = N' * D) : N = N' ∧ D = D' := by
  have c1 : Nat.Coprime D.natAbs N.natAbs := (Nat.gcd_comm _ _).trans h1
  have c2 : Nat.Coprime D'.natAbs N'.natAbs := (Nat.gcd_comm _ _).trans h2
  have e : N.natAbs * D'.natAbs = N'.natAbs * D.natAbs := by rw [← Int.natAbs_mul, ← Int.natAbs_mul, h]
  have d1 : D.natAbs ∣ D'.natAbs := c1.dvd_of_dvd_mul_left (by rw [e]; exact Nat.dvd_mul_left _ _)
  have d2 : D'.natAbs ∣ D.natAbs := c2.dvd_of_dvd_mul_left (by rw [← e]; exact Nat.dvd_mul_left _ _)
  have e2 := Nat.dvd_antisymm d1 d2
  have e3 : D = D' := by omega
  subst e3
  exact ⟨Int.eq_of_mul_eq_mul_right (by omega) h, rfl⟩

/-- Equal fractions have equal lowest terms. -/
theorem red_eq {n d n' d' : Int} (hd : 0 < d) (hd' : 0 < d') (h : n * d' = n' * d) : rN n d = rN n' d' ∧ rD n d = rD n' d' := by
  refine cop_eq (red_cop hd) (red_cop hd') (rD_pos n hd) (rD_pos n' hd') ?_
  have g := gcd_pos n hd
  have g' := gcd_pos n' hd'
  have h3 : rN n d * rD n' d' * ((Int.gcd n d : Int) * (Int.gcd n' d' : Int)) = rN n' d' * rD n d * ((Int.gcd n d : Int) * (Int.gcd n' d' : Int)) := by
    have e1 : rN n d * rD n' d' * ((Int.gcd n d : Int) * (Int.gcd n' d' : Int)) = (rN n d * (Int.gcd n d : Int)) * (rD n' d' * (Int.gcd n' d' : Int)) := by ac_rfl
    have e2 : rN n' d' * rD n d * ((Int.gcd n d : Int) * (Int.gcd n' d' : Int)) = (rN n' d' * (Int.gcd n' d' : Int)) * (rD n d * (Int.gcd n d : Int)) := by ac_rfl
    rw [e1, e2, rN_mul, rN_mul, rD_mul, rD_mul, h]
  exact Int.eq_of_mul_eq_mul_right (Int.ne_of_gt (Int.mul_pos g g')) h3

/-- A whole number. -/
theorem red_whole {k d : Int} (hd : 0 < d) : rN (k * d) d = k ∧ rD (k * d) d = 1 := by
  have h := red_eq (n := k * d) (d := d) (n' := k) (d' := 1) hd (by omega) (by omega)
  have g : Int.gcd k 1 = 1 := Int.gcd_one_right k
  unfold rN rD at *
  rw [g] at h
  simpa using h

/-- What is in lowest terms stays. -/
theorem red_red {n d : Int} (hd : 0 < d) : rN (rN n d) (rD n d) = rN n d ∧ rD (rN n d) (rD n d) = rD n d := by
  have h := red_cop (n := n) hd
  generalize rN n d = N at *
  generalize rD n d = D at *
  unfold rN rD
  rw [h]
  simp

/-- Fractions are compared by their lowest terms as by themselves. -/
theorem red_lt {n d n' d' : Int} (hd : 0 < d) (hd' : 0 < d') : rN n d * rD n' d' < rN n' d' * rD n d ↔ n * d' < n' * d := by
  have g := gcd_pos n hd
  have g' := gcd_pos n' hd'
  have gg := Int.mul_pos g g'
  have e1 : rN n d * rD n' d' * ((Int.gcd n d : Int) * (Int.gcd n' d' : Int)) = n * d' := by
    have : rN n d * rD n' d' * ((Int.gcd n d : Int) * (Int.gcd n' d' : Int)) = (rN n d * (Int.gcd n d : Int)) * (rD n' d' * (Int.gcd n' d' : Int)) := by ac_rfl
    rw [this, rN_mul, rD_mul]
  have e2 : rN n' d' * rD n d * ((Int.gcd n d : Int) * (Int.gcd n' d' : Int)) = n' * d := by
    have : rN n' d' * rD n d * ((Int.gcd n d : Int) * (Int.gcd n' d' : Int)) = (rN n' d' * (Int.gcd n' d' : Int)) * (rD n d * (Int.gcd n d : Int)) := by ac_rfl
    rw [this, rN_mul, rD_mul]
  rw [← e1, ← e2]
  constructor
  · intro h; exact Int.mul_lt_mul_of_pos_right h gg
  · intro h; exact Int.lt_of_mul_lt_mul_right h (by omega)

end Go.Proofs.Ytbhndfnfohoidaa

namespace Go.Proofs.Ytbhndfnfohoidaa

/-- The absolute value. -/
def ab (x : Int) : Int := (x.natAbs : Int)
theorem ab_cases (x : Int) : (0 ≤ x ∧ ab x = x) ∨ (x < 0 ∧ ab x = -x) := by unfold ab; omega
theorem ab_nonneg (x : Int) : 0 ≤ ab x := by unfold ab; omega
theorem ab_neg (x : Int) : ab (-x) = ab x := by unfold ab; omega
theorem ab_mul (x y : Int) : ab (x * y) = ab x * ab y := by unfold ab; rw [Int.natAbs_mul, Int.natCast_mul]

/-- A product of bounded numbers. -/
theorem mul_bd {a b A B : Int} (h1 : -A ≤ a) (h2 : a ≤ A) (h3 : -B ≤ b) (h4 : b ≤ B) : -(A * B) ≤ a * b ∧ a * b ≤ A * B := by
  have hA : 0 ≤ A := by omega
  have hB : 0 ≤ B := by omega
  have e : (a * b).natAbs ≤ (A * B).natAbs := by
    rw [Int.natAbs_mul, Int.natAbs_mul]
    exact Nat.mul_le_mul (by omega) (by omega)
  have : 0 ≤ A * B := Int.mul_nonneg hA hB
  omega

/-- The divisor of a line's numbers, with the sign of d. -/
def gk (a b d : Int) : Int := if d < 0 then -(Int.gcd (Int.gcd a b) d : Int) else (Int.gcd (Int.gcd a b) d : Int)
/-- The line (a x + b) / d in its least numbers. -/
def mkA (a b d : Int) : Int := a / gk a b d
def mkB (a b d : Int) : Int := b / gk a b d
def mkD (a b d : Int) : Int := d / gk a b d

theorem g3_dvd (a b d : Int) : (Int.gcd (Int.gcd a b) d : Int) ∣ a ∧ (Int.gcd (Int.gcd a b) d : Int) ∣ b ∧ (Int.gcd (Int.gcd a b) d : Int) ∣ d :=
  ⟨Int.dvd_trans (Int.gcd_dvd_left _ _) (Int.gcd_dvd_left a b), Int.dvd_trans (Int.gcd_dvd_left _ _) (Int.gcd_dvd_right a b), Int.gcd_dvd_right _ _⟩
theorem g3_pos {d : Int} (a b : Int) (hd : d ≠ 0) : 0 < (Int.gcd (Int.gcd a b) d : Int) := by
  have : Int.gcd (Int.gcd a b) d ≠ 0 := fun h => hd (Int.gcd_eq_zero_iff.1 h).2
  omega
theorem gk_dvd (a b d : Int) : gk a b d ∣ a ∧ gk a b d ∣ b ∧ gk a b d ∣ d := by
  obtain ⟨h1, h2, h3⟩ := g3_dvd a b d
  unfold gk
  split
  · exact ⟨Int.neg_dvd.2 h1, Int.neg_dvd.2 h2, Int.neg_dvd.2 h3⟩
  · exact ⟨h1, h2, h3⟩
theorem gk_ne {d : Int} (a b : Int) (hd : d ≠ 0) : gk a b d ≠ 0 := by
  have := g3_pos a b hd
  unfold gk
  split <;> omega
theorem mkA_mul (a b d : Int) : mkA a b d * gk a b d = a := Int.ediv_mul_cancel (gk_dvd a b d).1
theorem mkB_mul (a b d : Int) : mkB a b d * gk a b d = b := Int.ediv_mul_cancel (gk_dvd a b d).2.1
theorem mkD_mul (a b d : Int) : mkD a b d * gk a b d = d := Int.ediv_mul_cancel (gk_dvd a b d).2.2
theorem mkA_tdiv (a b d : Int) : a.tdiv (gk a b d) = mkA a b d := Int.tdiv_eq_ediv_of_dvd (gk_dvd a b d).1
theorem mkB_tdiv (a b d : Int) : b.tdiv (gk a b d) = mkB a b d := Int.tdiv_eq_ediv_of_dvd (gk_dvd a b d).2.1
theorem mkD_tdiv (a b d : Int) : d.tdiv (gk a b d) = mkD a b d := Int.tdiv_eq_ediv_of_dvd (gk_dvd a b d).2.2
theorem quo_abs {x k q : Int} (hk : k ≠ 0) (h : q * k = x) : q.natAbs ≤ x.natAbs := by
  have : q.natAbs * k.natAbs = x.natAbs := by rw [← Int.natAbs_mul, h]
  have := Nat.le_mul_of_pos_right q.natAbs (show 0 < k.natAbs by omega)
  omega
theorem mk_abs {d : Int} (a b : Int) (hd : d ≠ 0) : (mkA a b d).natAbs ≤ a.natAbs ∧ (mkB a b d).natAbs ≤ b.natAbs ∧ (mkD a b d).natAbs ≤ d.natAbs :=
  ⟨quo_abs (gk_ne a b hd) (mkA_mul a b d), quo_abs (gk_ne a b hd) (mkB_mul a b d), quo_abs (gk_ne a b hd) (mkD_mul a b d)⟩
theorem mkD_pos {d : Int} (a b : Int) (hd : d ≠ 0) : 0 < mkD a b d := by
  have h := mkD_mul a b d
  have g := g3_pos a b hd
  unfold gk at h
  split at h
  · rcases Int.lt_or_le 0 (mkD a b d) with h1 | h1
    · exact h1
    · have : 0 ≤ mkD a b d * -(Int.gcd (Int.gcd a b) d : Int) := by
        rw [Int.mul_neg, ← Int.neg_mul]
        exact Int.mul_nonneg (by omega) (by omega)
      omega
  · rcases Int.lt_or_le 0 (mkD a b d) with h1 | h1
    · exact h1
    · have : 0 ≤ -mkD a b d * (Int.gcd (Int.gcd a b) d : Int) := Int.mul_nonneg (by omega) (by omega)
      rw [Int.neg_mul] at this
      omega
theorem gk_neg {d : Int} (a b : Int) (hd : d ≠ 0) : gk (-a) (-b) (-d) = -gk a b d := by
  have e : (Int.gcd (Int.gcd (-a) (-b)) (-d)) = Int.gcd (Int.gcd a b) d := by
    unfold Int.gcd
    simp only [Int.natAbs_neg, Int.natAbs_natCast]
  unfold gk
  rw [e]
  by_cases h : d < 0
  · rw [if_pos h, if_neg (by omega)]; omega
  · rw [if_neg h, if_pos (by omega)]
theorem mk_neg {d : Int} (a b : Int) (hd : d ≠ 0) : mkA (-a) (-b) (-d) = mkA a b d ∧ mkB (-a) (-b) (-d) = mkB a b d ∧ mkD (-a) (-b) (-d) = mkD a b d := by
  unfold mkA mkB mkD
  obtain ⟨h1, h2, h3⟩ := gk_dvd a b d
  rw [gk_neg a b hd, Int.ediv_neg, Int.ediv_neg, Int.ediv_neg, Int.neg_ediv_of_dvd h1, Int.neg_ediv_of_dvd h2, Int.neg_ediv_of_dvd h3]
  omega

/-- The numbers of the line through two points. -/
def rwA (_x1 y1 _x2 y2 : Int) : Int := y2 - y1
def rwB (x1 y1 x2 y2 : Int) : Int := y1 * (x2 - x1) - (y2 - y1) * x1
def rwD (x1 _y1 x2 _y2 : Int) : Int := x2 - x1
def thA (x1 y1 x2 y2 : Int) : Int := mkA (rwA x1 y1 x2 y2) (rwB x1 y1 x2 y2) (rwD x1 y1 x2 y2)
def thB (x1 y1 x2 y2 : Int) : Int := mkB (rwA x1 y1 x2 y2) (rwB x1 y1 x2 y2) (rwD x1 y1 x2 y2)
def thD (x1 y1 x2 y2 : Int) : Int := mkD (rwA x1 y1 x2 y2) (rwB x1 y1 x2 y2) (rwD x1 y1 x2 y2)
theorem rw_swap (x1 y1 x2 y2 : Int) : rwA x2 y2 x1 y1 = -rwA x1 y1 x2 y2 ∧ rwB x2 y2 x1 y1 = -rwB x1 y1 x2 y2 ∧ rwD x2 y2 x1 y1 = -rwD x1 y1 x2 y2 := by
  unfold rwA rwB rwD
  refine ⟨by omega, ?_, by omega⟩
  grind
theorem th_swap {x1 y1 x2 y2 : Int} (h : x1 ≠ x2) : thA x2 y2 x1 y1 = thA x1 y1 x2 y2 ∧ thB x2 y2 x1 y1 = thB x1 y1 x2 y2 ∧ thD x2 y2 x1 y1 = thD x1 y1 x2 y2 := by
  obtain ⟨h1, h2, h3⟩ := rw_swap x1 y1 x2 y2
  unfold thA thB thD
  rw [h1, h2, h3]
  exact mk_neg _ _ (by unfold rwD; omega)

/-- A point in range. -/
def InP (x y : Int) : Prop := (-100 ≤ x ∧ x ≤ 100) ∧ -1000 ≤ y ∧ y ≤ 1000
theorem rw_bd {x1 y1 x2 y2 : Int} (h1 : InP x1 y1) (h2 : InP x2 y2) : (-2000 ≤ rwA x1 y1 x2 y2 ∧ rwA x1 y1 x2 y2 ≤ 2000) ∧ (-400000 ≤ rwB x1 y1 x2 y2 ∧ rwB x1 y1 x2 y2 ≤ 400000) ∧ -200 ≤ rwD x1 y1 x2 y2 ∧ rwD x1 y1 x2 y2 ≤ 200 := by
  obtain ⟨⟨a1, a2⟩, a3, a4⟩ := h1
  obtain ⟨⟨b1, b2⟩, b3, b4⟩ := h2
  have m1 := mul_bd (a := y1) (b := x2 - x1) (A := 1000) (B := 200) (by omega) (by omega) (by omega) (by omega)
  have m2 := mul_bd (a := y2 - y1) (b := x1) (A := 2000) (B := 100) (by omega) (by omega) (by omega) (by omega)
  unfold rwA rwB rwD
  omega
theorem th_bd {x1 y1 x2 y2 : Int} (h1 : InP x1 y1) (h2 : InP x2 y2) (h : x1 ≠ x2) : (-2000 ≤ thA x1 y1 x2 y2 ∧ thA x1 y1 x2 y2 ≤ 2000) ∧ (-400000 ≤ thB x1 y1 x2 y2 ∧ thB x1 y1 x2 y2 ≤ 400000) ∧ 0 < thD x1 y1 x2 y2 ∧ thD x1 y1 x2 y2 ≤ 200 := by
  have hd : rwD x1 y1 x2 y2 ≠ 0 := by unfold rwD; omega
  obtain ⟨a, b, c⟩ := rw_bd h1 h2
  obtain ⟨p, q, r⟩ := mk_abs (rwA x1 y1 x2 y2) (rwB x1 y1 x2 y2) hd
  have := mkD_pos (rwA x1 y1 x2 y2) (rwB x1 y1 x2 y2) hd
  unfold thA thB thD
  omega

/-- The rest of a point, times the D of the line. -/
def rs (x y A B D : Int) : Int := y * D - A * x - B
/-- A line in range. -/
def InL (A B D : Int) : Prop := (-1000000 ≤ A ∧ A ≤ 1000000) ∧ (-100000000 ≤ B ∧ B ≤ 100000000) ∧ 1 ≤ D ∧ D ≤ 10000
theorem th_in {x1 y1 x2 y2 : Int} (h1 : InP x1 y1) (h2 : InP x2 y2) (h : x1 ≠ x2) : InL (thA x1 y1 x2 y2) (thB x1 y1 x2 y2) (thD x1 y1 x2 y2) := by
  have := th_bd h1 h2 h
  unfold InL
  omega
theorem rs_bd {x y A B D : Int} (h1 : InP x y) (h2 : InL A B D) : (-10000000 ≤ y * D ∧ y * D ≤ 10000000) ∧ (-100000000 ≤ A * x ∧ A * x ≤ 100000000) ∧ -210000000 ≤ rs x y A B D ∧ rs x y A B D ≤ 210000000 := by
  obtain ⟨⟨a1, a2⟩, a3, a4⟩ := h1
  obtain ⟨⟨b1, b2⟩, ⟨b3, b4⟩, b5, b6⟩ := h2
  have m1 := mul_bd (a := y) (b := D) (A := 1000) (B := 10000) (by omega) (by omega) (by omega) (by omega)
  have m2 := mul_bd (a := A) (b := x) (A := 1000000) (B := 100) (by omega) (by omega) (by omega) (by omega)
  unfold rs
  omega

end Go.Proofs.Ytbhndfnfohoidaa

namespace Go.Proofs.Ytbhndfnfohoidaa

/-- Whether one of the first k numbers is x. -/
def anyI (l : Nat → Int) (k : Nat) (x : Int) : Bool := (List.range k).any fun i => l i == x
theorem anyI_succ (l : Nat → Int) (k : Nat) (x : Int) : anyI l (k + 1) x = (anyI l k x || l k == x) := by unfold anyI; rw [List.range_succ, List.any_append]; simp
theorem anyI_stop {l : Nat → Int} {k n : Nat} {x : Int} (hk : k < n) (h : l k = x) : anyI l n x = true := by unfold anyI; rw [List.any_eq_true]; exact ⟨k, List.mem_range.2 hk, by simp [h]⟩
/-- A number of a list that is an index of one of n points and did not come before. -/
def goodAt (n : Nat) (l : Nat → Int) (j : Nat) : Bool := decide (0 ≤ l j) && decide (l j < n) && !anyI l j (l j)
def goodW (n : Nat) (l : Nat → Int) (m : Nat) : Bool := (List.range m).all (goodAt n l)
theorem goodW_succ (n : Nat) (l : Nat → Int) (m : Nat) : goodW n l (m + 1) = (goodW n l m && goodAt n l m) := by unfold goodW; rw [List.range_succ, List.all_append]; simp
theorem goodW_zero (n : Nat) (l : Nat → Int) : goodW n l 0 = true := rfl
theorem goodW_stop {n : Nat} {l : Nat → Int} {k m : Nat} (hk : k < m) (h : goodAt n l k = false) : goodW n l m = false := by
  rw [Bool.eq_false_iff]
  intro hv
  unfold goodW at hv
  rw [List.all_eq_true] at hv
  have := hv k (List.mem_range.2 hk)
  rw [h] at this; cases this
theorem goodW_at {n : Nat} {l : Nat → Int} {k m : Nat} (h : goodW n l m = true) (hk : k < m) : ∃ i : Nat, i < n ∧ l k = i := by
  unfold goodW at h
  rw [List.all_eq_true] at h
  have := h k (List.mem_range.2 hk)
  unfold goodAt at this
  simp only [Bool.and_eq_true, decide_eq_true_eq] at this
  exact ⟨(l k).toNat, by omega, by omega⟩

/-- The point at a number of the list. -/
def at_ (l : Nat → Int) (j : Nat) : Nat := (l j).toNat
/-- Whether a list is a witness. -/
def witB (n : Nat) (X : Nat → Int) (m : Nat) (l : Nat → Int) : Bool :=
  goodW n l m && ((decide (m = 2) && X (at_ l 0) == X (at_ l 1)) || (decide (m = 3) && (decide (X (at_ l 0) < X (at_ l 1)) && decide (X (at_ l 1) < X (at_ l 2)))))
/-- Of three points the rest of the one in the middle, times the D of the line through the others, and that D. -/
def t3r (X Y : Nat → Int) (a b c : Nat) : Int := rs (X b) (Y b) (thA (X a) (Y a) (X c) (Y c)) (thB (X a) (Y a) (X c) (Y c)) (thD (X a) (Y a) (X c) (Y c))
def t3d (X Y : Nat → Int) (a c : Nat) : Int := thD (X a) (Y a) (X c) (Y c)
def t2N (Y : Nat → Int) (a b : Nat) : Int := rN (ab (Y a - Y b)) 2
def t2D (Y : Nat → Int) (a b : Nat) : Int := rD (ab (Y a - Y b)) 2
def t3N (X Y : Nat → Int) (a b c : Nat) : Int := rN (ab (t3r X Y a b c)) (2 * t3d X Y a c)
def t3D (X Y : Nat → Int) (a b c : Nat) : Int := rD (ab (t3r X Y a b c)) (2 * t3d X Y a c)
/-- What a witness tells. -/
def tlN (X Y : Nat → Int) (m : Nat) (l : Nat → Int) : Int := if m = 2 then t2N Y (at_ l 0) (at_ l 1) else t3N X Y (at_ l 0) (at_ l 1) (at_ l 2)
def tlD (X Y : Nat → Int) (m : Nat) (l : Nat → Int) : Int := if m = 2 then t2D Y (at_ l 0) (at_ l 1) else t3D X Y (at_ l 0) (at_ l 1) (at_ l 2)

theorem t3r_bd {X Y : Nat → Int} {a b c : Nat} (ha : InP (X a) (Y a)) (hb : InP (X b) (Y b)) (hc : InP (X c) (Y c)) (h : X a ≠ X c) : (-800000 ≤ t3r X Y a b c ∧ t3r X Y a b c ≤ 800000) ∧ 0 < t3d X Y a c ∧ t3d X Y a c ≤ 200 := by
  obtain ⟨⟨p1, p2⟩, ⟨p3, p4⟩, p5, p6⟩ := th_bd ha hc h
  obtain ⟨⟨b1, b2⟩, b3, b4⟩ := hb
  have m1 := mul_bd (a := Y b) (b := thD (X a) (Y a) (X c) (Y c)) (A := 1000) (B := 200) (by omega) (by omega) (by omega) (by omega)
  have m2 := mul_bd (a := thA (X a) (Y a) (X c) (Y c)) (b := X b) (A := 2000) (B := 100) (by omega) (by omega) (by omega) (by omega)
  unfold t3r t3d rs
  omega

end Go.Proofs.Ytbhndfnfohoidaa

namespace Go.Proofs.Ytbhndfnfohoidaa

def row2 (X : Nat → Int) (a : Nat) : Nat → List (List Nat)
  | 0 => []
  | b + 1 => row2 X a b ++ (if a < b ∧ X a = X b then [[a, b]] else [])
def pr2 (X : Nat → Int) (n : Nat) : Nat → List (List Nat)
  | 0 => []
  | a + 1 => pr2 X n a ++ row2 X a n
def row3 (X : Nat → Int) (a b : Nat) : Nat → List (List Nat)
  | 0 => []
  | c + 1 => row3 X a b c ++ (if X a < X b ∧ X b < X c then [[a, b, c]] else [])
def pl3 (X : Nat → Int) (n a : Nat) : Nat → List (List Nat)
  | 0 => []
  | b + 1 => pl3 X n a b ++ row3 X a b n
def cub (X : Nat → Int) (n : Nat) : Nat → List (List Nat)
  | 0 => []
  | a + 1 => cub X n a ++ pl3 X n a n
/-- All witnesses of n points: those of two, and then those of three, index by index. -/
def wits (n : Nat) (X : Nat → Int) : List (List Nat) := pr2 X n n ++ cub X n n

theorem row2_low (X : Nat → Int) (a : Nat) : ∀ b, b ≤ a + 1 → row2 X a b = []
  | 0, _ => rfl
  | b + 1, h => by rw [row2, row2_low X a b (by omega), if_neg (by omega)]; rfl

/-- A list of numbers, read by index. -/
def nf (L : List Nat) (i : Nat) : Int := ((L.getD i 0 : Nat) : Int)

end Go.Proofs.Ytbhndfnfohoidaa

namespace Go.Proofs.Ytbhndfnfohoidaa

/-- What was found: the witness (none: none yet), and what it tells. -/
structure Wst where
  l : List Nat
  N : Int
  D : Int
def wst0 : Wst := ⟨[], 0, 1⟩
def LN (X Y : Nat → Int) (L : List Nat) : Int := tlN X Y L.length (nf L)
def LD (X Y : Nat → Int) (L : List Nat) : Int := tlD X Y L.length (nf L)
def wstep (X Y : Nat → Int) (s : Wst) (L : List Nat) : Wst := if s.l = [] ∨ s.N * LD X Y L < LN X Y L * s.D then ⟨L, LN X Y L, LD X Y L⟩ else s
def witS (X Y : Nat → Int) (ls : List (List Nat)) : Wst := ls.foldl (wstep X Y) wst0
theorem witS_snoc (X Y : Nat → Int) (ls : List (List Nat)) (L : List Nat) : witS X Y (ls ++ [L]) = wstep X Y (witS X Y ls) L := by unfold witS; rw [List.foldl_append]; rfl

/-- A list that is a witness. -/
def IsWit (n : Nat) (X : Nat → Int) (L : List Nat) : Prop := witB n X L.length (nf L) = true ∧ (L.length = 2 ∨ L.length = 3)
theorem row2_wit {n : Nat} {X : Nat → Int} {a : Nat} (ha : a < n) : ∀ {b : Nat}, b ≤ n → ∀ L ∈ row2 X a b, IsWit n X L := by
  intro b
  induction b with
  | zero => intro _ L hL; cases hL
  | succ b ih =>
    intro hb L hL
    rw [row2, List.mem_append] at hL
    rcases hL with hL | hL
    · exact ih (by omega) L hL
    · split at hL
      · rename_i h
        obtain rfl := List.mem_singleton.1 hL
        refine ⟨?_, .inl rfl⟩
        have e0 : nf [a, b] 0 = (a : Int) := rfl
        have e1 : nf [a, b] 1 = (b : Int) := rfl
        unfold witB goodW goodAt anyI at_
        simp [List.range_succ, e0, e1, h.2]
        omega
      · cases hL
theorem row3_wit {n : Nat} {X : Nat → Int} {a b : Nat} (ha : a < n) (hb : b < n) : ∀ {c : Nat}, c ≤ n → ∀ L ∈ row3 X a b c, IsWit n X L := by
  intro c
  induction c with
  | zero => intro _ L hL; cases hL
  | succ c ih =>
    intro hc L hL
    rw [row3, List.mem_append] at hL
    rcases hL with hL | hL
    · exact ih (by omega) L hL
    · split at hL
      · rename_i h
        obtain rfl := List.mem_singleton.1 hL
        refine ⟨?_, .inr rfl⟩
        have e0 : nf [a, b, c] 0 = (a : Int) := rfl
        have e1 : nf [a, b, c] 1 = (b : Int) := rfl
        have e2 : nf [a, b, c] 2 = (c : Int) := rfl
        have h1 : a ≠ b := fun e => by subst e; have := h.1; omega
        have h2 : b ≠ c := fun e => by subst e; have := h.2; omega
        have h3 : a ≠ c := fun e => by subst e; have := h.1; have := h.2; omega
        unfold witB goodW goodAt anyI at_
        simp [List.range_succ, e0, e1, e2, h.1, h.2]
        omega
      · cases hL
theorem wits_wit {n : Nat} {X : Nat → Int} : ∀ L ∈ wits n X, IsWit n X L := by
  have p2 : ∀ k, k ≤ n → ∀ L ∈ pr2 X n k, IsWit n X L := by
    intro k
    induction k with
    | zero => intro _ L hL; cases hL
    | succ k ih =>
      intro hk L hL
      rw [pr2, List.mem_append] at hL
      rcases hL with hL | hL
      · exact ih (by omega) L hL
      · exact row2_wit (by omega) (Nat.le_refl _) L hL
  have q3 : ∀ a, a < n → ∀ k, k ≤ n → ∀ L ∈ pl3 X n a k, IsWit n X L := by
    intro a ha k
    induction k with
    | zero => intro _ L hL; cases hL
    | succ k ih =>
      intro hk L hL
      rw [pl3, List.mem_append] at hL
      rcases hL with hL | hL
      · exact ih (by omega) L hL
      · exact row3_wit ha (by omega) (Nat.le_refl _) L hL
  have p3 : ∀ k, k ≤ n → ∀ L ∈ cub X n k, IsWit n X L := by
    intro k
    induction k with
    | zero => intro _ L hL; cases hL
    | succ k ih =>
      intro hk L hL
      rw [cub, List.mem_append] at hL
      rcases hL with hL | hL
      · exact ih (by omega) L hL
      · exact q3 k (by omega) n (Nat.le_refl _) L hL
  intro L hL
  unfold wits at hL
  rcases List.mem_append.1 hL with hL | hL
  · exact p2 n (Nat.le_refl _) L hL
  · exact p3 n (Nat.le_refl _) L hL

/-- What a witness of points in range tells is small. -/
theorem LND_bd {n : Nat} {X Y : Nat → Int} (ok : ∀ i, i < n → InP (X i) (Y i)) {L : List Nat} (h : IsWit n X L) : (0 ≤ LN X Y L ∧ LN X Y L ≤ 800000) ∧ 0 < LD X Y L ∧ LD X Y L ≤ 400 := by
  obtain ⟨h1, h2⟩ := h
  unfold witB at h1
  rw [Bool.and_eq_true] at h1
  obtain ⟨hg, hw⟩ := h1
  have at1 : ∀ j, j < L.length → at_ (nf L) j < n := fun j hj => by
    obtain ⟨i, hi, e⟩ := goodW_at hg hj
    unfold at_; rw [e]; simpa using hi
  unfold LN LD tlN tlD
  rcases h2 with e | e
  · rw [if_pos e, if_pos e]
    have a := ok _ (at1 0 (by omega))
    have b := ok _ (at1 1 (by omega))
    generalize at_ (nf L) 0 = p at *
    generalize at_ (nf L) 1 = q at *
    obtain ⟨_, a3, a4⟩ := a
    obtain ⟨_, b3, b4⟩ := b
    have hb : 0 ≤ ab (Y p - Y q) ∧ ab (Y p - Y q) ≤ 2000 := by have := ab_cases (Y p - Y q); omega
    unfold t2N t2D
    have := rN_nonneg (d := 2) hb.1
    have := rN_le (d := 2) hb.1
    have := rD_pos (d := 2) (ab (Y p - Y q)) (by omega)
    have := rD_le (d := 2) (ab (Y p - Y q)) (by omega)
    omega
  · rw [if_neg (by omega), if_neg (by omega)]
    rw [decide_eq_false (show ¬ L.length = 2 by omega), decide_eq_true e] at hw
    simp only [Bool.false_and, Bool.false_or, Bool.true_and, Bool.and_eq_true, decide_eq_true_eq] at hw
    have a := ok _ (at1 0 (by omega))
    have b := ok _ (at1 1 (by omega))
    have c := ok _ (at1 2 (by omega))
    generalize at_ (nf L) 0 = p at *
    generalize at_ (nf L) 1 = q at *
    generalize at_ (nf L) 2 = r at *
    obtain ⟨t1, t2, t3⟩ := t3r_bd a b c (show X p ≠ X r by omega)
    unfold t3N t3D
    generalize t3r X Y p q r = tr at *
    generalize t3d X Y p r = d at *
    have hb : 0 ≤ ab tr ∧ ab tr ≤ 800000 := by have := ab_cases tr; omega
    have := rN_nonneg (d := 2 * d) hb.1
    have := rN_le (d := 2 * d) hb.1
    have := rD_pos (d := 2 * d) (ab tr) (by omega)
    have := rD_le (d := 2 * d) (ab tr) (by omega)
    omega
theorem witS_bd {n : Nat} {X Y : Nat → Int} (ok : ∀ i, i < n → InP (X i) (Y i)) : ∀ {ls : List (List Nat)}, (∀ L ∈ ls, IsWit n X L) → (0 ≤ (witS X Y ls).N ∧ (witS X Y ls).N ≤ 800000) ∧ 0 < (witS X Y ls).D ∧ (witS X Y ls).D ≤ 400 := by
  have key : ∀ (ls : List (List Nat)) (s : Wst), (∀ L ∈ ls, IsWit n X L) → ((0 ≤ s.N ∧ s.N ≤ 800000) ∧ 0 < s.D ∧ s.D ≤ 400) → (0 ≤ (ls.foldl (wstep X Y) s).N ∧ (ls.foldl (wstep X Y) s).N ≤ 800000) ∧ 0 < (ls.foldl (wstep X Y) s).D ∧ (ls.foldl (wstep X Y) s).D ≤ 400 := by
    intro ls
    induction ls with
    | nil => intro s _ h; exact h
    | cons L ls ih =>
      intro s hl h
      refine ih _ (fun M hM => hl M (List.mem_cons_of_mem _ hM)) ?_
      unfold wstep
      split
      · exact LND_bd ok (hl L (List.mem_cons_self ..))
      · exact h
  intro ls hl
  exact key ls wst0 hl ⟨⟨by decide, by decide⟩, by decide, by decide⟩

end Go.Proofs.Ytbhndfnfohoidaa

namespace Go.Proofs.Ytbhndfnfohoidaa

theorem wit2 {n : Nat} {X : Nat → Int} {a b : Nat} (ha : a < n) (hb : b < n) (hab : a < b) : witB n X 2 (nf [a, b]) = decide (X a = X b) := by
  have e0 : nf [a, b] 0 = (a : Int) := rfl
  have e1 : nf [a, b] 1 = (b : Int) := rfl
  have h1 : ¬ (a : Int) = b := by omega
  unfold witB goodW goodAt anyI at_
  simp only [List.range_succ, e0, e1]
  rw [Bool.eq_iff_iff]
  simp
  omega
theorem wit3 {n : Nat} {X : Nat → Int} {a b c : Nat} (ha : a < n) (hb : b < n) (hc : c < n) : witB n X 3 (nf [a, b, c]) = decide (X a < X b ∧ X b < X c) := by
  have e0 : nf [a, b, c] 0 = (a : Int) := rfl
  have e1 : nf [a, b, c] 1 = (b : Int) := rfl
  have e2 : nf [a, b, c] 2 = (c : Int) := rfl
  by_cases h : X a < X b ∧ X b < X c
  · have h1 : a ≠ b := fun e => by subst e; have := h.1; omega
    have h2 : b ≠ c := fun e => by subst e; have := h.2; omega
    have h3 : a ≠ c := fun e => by subst e; have := h.1; have := h.2; omega
    rw [decide_eq_true h]
    unfold witB goodW goodAt anyI at_
    simp [List.range_succ, e0, e1, e2, h.1, h.2]
    omega
  · rw [decide_eq_false h]
    unfold witB at_
    rw [e0, e1, e2]
    simp only [Int.toNat_natCast]
    by_cases g : X a < X b
    · have : ¬ X b < X c := fun k => h ⟨g, k⟩
      simp [this]
    · simp [g]
theorem row2_len (X : Nat → Int) (a : Nat) : ∀ b, (row2 X a b).length ≤ b
  | 0 => Nat.le_refl _
  | b + 1 => by
    have := row2_len X a b
    rw [row2, List.length_append]
    split
    · simp; omega
    · simp; omega
theorem pr2_len (X : Nat → Int) (n : Nat) : ∀ a, (pr2 X n a).length ≤ a * n
  | 0 => by simp [pr2]
  | a + 1 => by
    have := pr2_len X n a
    have := row2_len X a n
    rw [pr2, List.length_append, Nat.succ_mul]
    omega
theorem row3_len (X : Nat → Int) (a b : Nat) : ∀ c, (row3 X a b c).length ≤ c
  | 0 => Nat.le_refl _
  | c + 1 => by
    have := row3_len X a b c
    rw [row3, List.length_append]
    split
    · simp; omega
    · simp; omega
theorem pl3_len (X : Nat → Int) (n a : Nat) : ∀ b, (pl3 X n a b).length ≤ b * n
  | 0 => by simp [pl3]
  | b + 1 => by
    have := pl3_len X n a b
    have := row3_len X a b n
    rw [pl3, List.length_append, Nat.succ_mul]
    omega
theorem cub_len (X : Nat → Int) (n : Nat) : ∀ a, (cub X n a).length ≤ a * (n * n)
  | 0 => by simp [cub]
  | a + 1 => by
    have := cub_len X n a
    have := pl3_len X n a n
    rw [cub, List.length_append, Nat.succ_mul]
    omega
theorem small12 {n : Nat} (hn : n ≤ 12) : n * n ≤ 144 ∧ n * (n * n) ≤ 1728 := by
  have h1 : n * n ≤ 12 * 12 := Nat.mul_le_mul hn hn
  have h2 : n * (n * n) ≤ 12 * 144 := Nat.mul_le_mul hn (by omega)
  omega
theorem pre2_len {n : Nat} {X : Nat → Int} (hn : n ≤ 12) {a b : Nat} (ha : a < n) (hb : b ≤ n) : (pr2 X n a ++ row2 X a b).length < 1000000 := by
  have h1 := pr2_len X n a
  have h2 := row2_len X a b
  have h3 : a * n ≤ n * n := Nat.mul_le_mul_right _ (by omega)
  have := small12 hn
  rw [List.length_append]
  omega
theorem pre3_len {n : Nat} {X : Nat → Int} (hn : n ≤ 12) {a b c : Nat} (ha : a < n) (hb : b < n) (hc : c ≤ n) : (pr2 X n n ++ (cub X n a ++ (pl3 X n a b ++ row3 X a b c))).length < 1000000 := by
  have h1 := pr2_len X n n
  have h2 := cub_len X n a
  have h3 := pl3_len X n a b
  have h4 := row3_len X a b c
  have h5 : a * (n * n) ≤ n * (n * n) := Nat.mul_le_mul_right _ (by omega)
  have h6 : b * n ≤ n * n := Nat.mul_le_mul_right _ (by omega)
  have := small12 hn
  simp only [List.length_append]
  omega
theorem wits_len {n : Nat} {X : Nat → Int} (hn : n ≤ 12) : (wits n X).length < 1000000 := by
  have h1 := pr2_len X n n
  have h2 := cub_len X n n
  have := small12 hn
  unfold wits
  rw [List.length_append]
  omega
end Go.Proofs.Ytbhndfnfohoidaa
