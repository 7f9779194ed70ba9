/- Plain arithmetic of fractions in lowest terms. -/
namespace Go.Proofs.YtdlbgelidcfmiaaGreatDoor

theorem gcd_step (a b : Int) : Int.gcd b (a.tmod b) = Int.gcd a b := by
  show Nat.gcd b.natAbs (a.tmod b).natAbs = Nat.gcd a.natAbs b.natAbs
  rw [Int.natAbs_tmod, Nat.gcd_comm a.natAbs b.natAbs, Nat.gcd_rec b.natAbs a.natAbs, Nat.gcd_comm]
theorem tmod_bd (a : Int) {b : Int} (hb : b ≠ 0) : (a.tmod b).natAbs < b.natAbs := by
  rw [Int.natAbs_tmod]; exact Nat.mod_lt _ (by omega)

/-- The fraction n / d (d above 0) in lowest terms. -/
def rN (n d : Int) : Int := n / (Int.gcd n d : Int)
def rD (n d : Int) : Int := d / (Int.gcd n d : Int)

theorem gcd_pos {d : Int} (n : Int) (hd : 0 < d) : 0 < (Int.gcd n d : Int) := by
  have : Int.gcd n d ≠ 0 := by
    intro h
    have := (Int.gcd_eq_zero_iff.1 h).2
    omega
  omega
theorem rN_mul (n d : Int) : rN n d * (Int.gcd n d : Int) = n := Int.ediv_mul_cancel (Int.gcd_dvd_left n d)
theorem rD_mul (n d : Int) : rD n d * (Int.gcd n d : Int) = d := Int.ediv_mul_cancel (Int.gcd_dvd_right n d)
theorem rD_pos {d : Int} (n : Int) (hd : 0 < d) : 0 < rD n d := by
  have h := rD_mul n d
  have g := gcd_pos n hd
  rcases Int.lt_trichotomy (rD n d) 0 with h1 | h1 | h1
  · have := Int.mul_neg_of_neg_of_pos h1 g; omega
  · rw [h1, Int.zero_mul] at h; omega
  · exact h1
theorem rD_le {d : Int} (n : Int) (hd : 0 < d) : rD n d ≤ d := Int.ediv_le_self _ (by omega)
theorem rN_nonneg {n d : Int} (h : 0 ≤ n) : 0 ≤ rN n d := Int.ediv_nonneg h (Int.natCast_nonneg _)
theorem rN_le {n d : Int} (h : 0 ≤ n) : rN n d ≤ n := Int.ediv_le_self _ h
theorem rN_abs {n d : Int} (hd : 0 < d) : (rN n d).natAbs ≤ n.natAbs := by
  have h := rN_mul n d
  have g := gcd_pos n hd
  have : (rN n d).natAbs * (Int.gcd n d) = n.natAbs := by
    have := congrArg Int.natAbs h
    rwa [Int.natAbs_mul, Int.natAbs_natCast] at this
  have := Nat.le_mul_of_pos_right (rN n d).natAbs (show 0 < Int.gcd n d by omega)
  omega
theorem rN_tdiv (n d : Int) : n.tdiv (Int.gcd n d : Int) = rN n d := Int.tdiv_eq_ediv_of_dvd (Int.gcd_dvd_left n d)
theorem rD_tdiv (n d : Int) : d.tdiv (Int.gcd n d : Int) = rD n d := Int.tdiv_eq_ediv_of_dvd (Int.gcd_dvd_right n d)

/-- The value is the same: (n / d) * d' .. -/
theorem red_mul (n d : Int) : rN n d * d = n * rD n d := by
  have h1 := rN_mul n d
  have h2 := rD_mul n d
  calc rN n d * d = rN n d * (rD n d * (Int.gcd n d : Int)) := by rw [h2]
    _ = rN n d * (Int.gcd n d : Int) * rD n d := by rw [Int.mul_comm (rD n d), Int.mul_assoc]
    _ = n * rD n d := by rw [h1]

theorem red_cop {n d : Int} (hd : 0 < d) : (rN n d).gcd (rD n d) = 1 := Int.gcd_ediv_gcd_ediv_gcd (by have := gcd_pos n hd; omega)

theorem cop_eq {N D N' D' : Int} (h1 : N.gcd D = 1) (h2 : N'.gcd D' = 1) (p1 : 0 < D) (p2 : 0 < D') (h : N * D' = N' * D) : N = N' ∧ D = D' := by
  have c1 : Nat.Coprime D.natAbs N.natAbs := (Nat.gcd_comm _ _).trans h1
  have c2 : Nat.Coprime D'.natAbs N'.natAbs := (Nat.gcd_comm _ _).trans h2
  have e : N.natAbs * D'.natAbs = N'.natAbs * D.natAbs := by rw [← Int.natAbs_mul, ← Int.natAbs_mul, h]
  have d1 : D.natAbs ∣ D'.natAbs := c1.dvd_of_dvd_mul_left (by rw [e]; exact Nat.dvd_mul_left _ _)
  have d2 : D'.natAbs ∣ D.natAbs := c2.dvd_of_dvd_mul_left (by rw [← e]; exact Nat.dvd_mul_left _ _)
  have e2 := Nat.dvd_antisymm d1 d2
  have e3 : D = D' := by omega
  subst e3
  exact ⟨Int.eq_of_mul_eq_mul_right (by omega) h, rfl⟩

/-- Equal fractions have equal lowest terms. -/
theorem red_eq {n d n' d' : Int} (hd : 0 < d) (hd' : 0 < d') (h : n * d' = n' * d) : rN n d = rN n' d' ∧ rD n d = rD n' d' := by
  refine cop_eq (red_cop hd) (red_cop hd') (rD_pos n hd) (rD_pos n' hd') ?_
  have g := gcd_pos n hd
  have g' := gcd_pos n' hd'
  have h3 : rN n d * rD n' d' * ((Int.gcd n d : Int) * (Int.gcd n' d' : Int)) = rN n' d' * rD n d * ((Int.gcd n d : Int) * (Int.gcd n' d' : Int)) := by
    have e1 : rN n d * rD n' d' * ((Int.gcd n d : Int) * (Int.gcd n' d' : Int)) = (rN n d * (Int.gcd n d : Int)) * (rD n' d' * (Int.gcd n' d' : Int)) := by ac_rfl
    have e2 : rN n' d' * rD n d * ((Int.gcd n d : Int) * (Int.gcd n' d' : Int)) = (rN n' d' * (Int.gcd n' d' : Int)) * (rD n d * (Int.gcd n d : Int)) := by ac_rfl
    rw [e1, e2, rN_mul, rN_mul, rD_mul, rD_mul, h]
  exact Int.eq_of_mul_eq_mul_right (Int.ne_of_gt (Int.mul_pos g g')) h3

/-- A whole number. -/
theorem red_whole {k d : Int} (hd : 0 < d) : rN (k * d) d = k ∧ rD (k * d) d = 1 := by
  have h := red_eq (n := k * d) (d := d) (n' := k) (d' := 1) hd (by omega) (by omega)
  have g : Int.gcd k 1 = 1 := Int.gcd_one_right k
  unfold rN rD at *
  rw [g] at h
  simpa using h

/-- What is in lowest terms stays. -/
theorem red_red {n d : Int} (hd : 0 < d) : rN (rN n d) (rD n d) = rN n d ∧ rD (rN n d) (rD n d) = rD n d := by
  have h := red_cop (n := n) hd
  generalize rN n d = N at *
  generalize rD n d = D at *
  unfold rN rD
  rw [h]
  simp

/-- Fractions are compared by their lowest terms as by themselves. -/
theorem red_lt {n d n' d' : Int} (hd : 0 < d) (hd' : 0 < d') : rN n d * rD n' d' < rN n' d' * rD n d ↔ n * d' < n' * d := by
  have g := gcd_pos n hd
  have g' := gcd_pos n' hd'
  have gg := Int.mul_pos g g'
  have e1 : rN n d * rD n' d' * ((Int.gcd n d : Int) * (Int.gcd n' d' : Int)) = n * d' := by
    have : rN n d * rD n' d' * ((Int.gcd n d : Int) * (Int.gcd n' d' : Int)) = (rN n d * (Int.gcd n d : Int)) * (rD n' d' * (Int.gcd n' d' : Int)) := by ac_rfl
    rw [this, rN_mul, rD_mul]
  have e2 : rN n' d' * rD n d * ((Int.gcd n d : Int) * (Int.gcd n' d' : Int)) = n' * d := by
    have : rN n' d' * rD n d * ((Int.gcd n d : Int) * (Int.gcd n' d' : Int)) = (rN n' d' * (Int.gcd n' d' : Int)) * (rD n d * (Int.gcd n d : Int)) := by ac_rfl
    rw [this, rN_mul, rD_mul]
  rw [← e1, ← e2]
  constructor
  · intro h; exact Int.mul_lt_mul_of_pos_right h gg
  · intro h; exact Int.lt_of_mul_lt_mul_right h (by omega)

end Go.Proofs.YtdlbgelidcfmiaaGreatDoor
