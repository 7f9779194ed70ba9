/- Contracts of chapter 1: More, of ratios, of the reference. -/
import Derived.Test.YtdlbgelidcfmiaaGreatDoorW27
import Derived.BigQuiet
namespace Go.Proofs.YtdlbgelidcfmiaaGreatDoor
open Go.RowKit Go.Firn

theorem more_q {N D N' D' : Int} (hD : 0 < D) (hD' : 0 < D') (h : ¬ N / D = N' / D') : decide (N' / D' < N / D) = decide (N' * D < N * D') := by
  have e1 := Int.mul_ediv_add_emod N D
  have e2 := Int.mul_ediv_add_emod N' D'
  have r1 := Int.emod_nonneg N (show D ≠ 0 by omega)
  have r2 := Int.emod_nonneg N' (show D' ≠ 0 by omega)
  have s1 := Int.emod_lt_of_pos N hD
  have s2 := Int.emod_lt_of_pos N' hD'
  generalize N / D = p at *
  generalize N' / D' = q at *
  generalize N % D = x at *
  generalize N' % D' = y at *
  subst e1 e2
  have a1 : (D * p + x) * D' = p * (D * D') + x * D' := by rw [Int.add_mul]; congr 1; ac_rfl
  have a2 : (D' * q + y) * D = q * (D * D') + y * D := by rw [Int.add_mul]; congr 1; ac_rfl
  have m0 : 0 < D * D' := Int.mul_pos hD hD'
  have m1 : 0 ≤ x * D' := Int.mul_nonneg r1 (by omega)
  have m2 : 0 ≤ y * D := Int.mul_nonneg r2 (by omega)
  have m3 : x * D' < D * D' := Int.mul_lt_mul_of_pos_right s1 hD'
  have m4 : y * D < D * D' := by rw [Int.mul_comm D D']; exact Int.mul_lt_mul_of_pos_right s2 hD
  rw [a1, a2, decide_eq_decide]
  generalize D * D' = K at *
  constructor
  · intro h1
    have : (q + 1) * K ≤ p * K := Int.mul_le_mul_of_nonneg_right (by omega) (by omega)
    rw [Int.add_mul, Int.one_mul] at this
    omega
  · intro h1
    rcases Int.lt_or_le q p with h2 | h2
    · omega
    · have : (p + 1) * K ≤ q * K := Int.mul_le_mul_of_nonneg_right (by omega) (by omega)
      rw [Int.add_mul, Int.one_mul] at this
      omega
theorem more_r {N D N' D' : Int} (h : N / D = N' / D') : (N' * D < N * D') ↔ (N' % D' * D < N % D * D') := by
  have e1 := Int.mul_ediv_add_emod N D
  have e2 := Int.mul_ediv_add_emod N' D'
  rw [h] at e1
  generalize N' / D' = q at *
  generalize N % D = x at *
  generalize N' % D' = y at *
  subst e1 e2
  have a1 : (D * q + x) * D' = q * (D * D') + x * D' := by rw [Int.add_mul]; congr 1; ac_rfl
  have a2 : (D' * q + y) * D = q * (D * D') + y * D := by rw [Int.add_mul]; congr 1; ac_rfl
  rw [a1, a2]
  omega

end Go.Proofs.YtdlbgelidcfmiaaGreatDoor
