/- Contracts of chapter 1: More, of ratios, of the reference. -/
import Derived.Test.YtdlbgelidcfmiaaW27
import Derived.BigQuiet
namespace Go.Proofs.Ytdlbgelidcfmiaa
open Go.RowKit Go.Firn

theorem more_q {N D N' D' : Int} (hD : 0 < D) (hD' : 0 < D') (h : ¬ N / D = N' / D') : decide (N' / D' < N / D) = decide (N' * D < N * D') := by
  have e1 := Int.mul_ediv_add_emod N D
  have e2 := Int.mul_ediv_add_emod N' D'
  have r1 := Int.emod_nonneg N (show D ≠ 0 by omega)
  have r2 := Int.emod_nonneg N' (show D' ≠ 0 by omega)
  have s1 := Int.emod_lt_of_pos N hD
  have s2 := Int.emod_lt_of_pos N' hD'
  generalize N / D = p at *
  generalize N' / D' = q at *
  generalize N % D = x at *
  generalize N' % D' = y at *
  subst e1 e2
  have a1 : (D * p + x) * D' = p * (D * D') + x * D' := by rw [Int.add_mul]; congr 1; ac_rfl
  have a2 : (D' * q + y) * D = q * (D * D') + y * D := by rw [Int.add_mul]; congr 1; ac_rfl
  have m0 : 0 < D * D' := Int.mul_pos hD hD'
  have m1 : 0 ≤ x * D' := Int.mul_nonneg r1 (by omega)
  have m2 : 0 ≤ y * D := Int.mul_nonneg r2 (by omega)
  have m3 : x * D' < D * D' := Int.mul_lt_mul_of_pos_right s1 hD'
  have m4 : y * D < D * D' := by rw [Int.mul_comm D D']; exact Int.mul_lt_mul_of_pos_right s2 hD
  rw [a1, a2, decide_eq_decide]
  generalize D * D' = K at *
  constructor
  · intro h1
    have : (q + 1) * K ≤ p * K := Int.mul_le_mul_of_nonneg_right (by omega) (by omega)
    rw [Int.add_mul, Int.one_mul] at this
    omega
  · intro h1
    rcases Int.lt_or_le q p with h2 | h2
    · omega
    · have : (p + 1) * K ≤ q * K := Int.mul_le_mul_of_nonneg_right (by omega) (by omega)
      rw [Int.add_mul, Int.one_mul] at this
      omega
theorem more_r {N D N' D' : Int} (h : N / D = N' / D') : (N' * D < N * D') ↔ (N' % D' * D < N % D * D') := by
  have e1 := Int.mul_ediv_add_emod N D
  have e2 := Int.mul_ediv_add_emod N' D'
  rw [h] at e1
  generalize N' / D' = q at *
  generalize N % D = x at *
  generalize N' % D' = y at *
  subst e1 e2
  have a1 : (D * q + x) * D' = q * (D * D') + x * D' := by rw [Int.add_mul]; congr 1; ac_rfl
  have a2 : (D' * q + y) * D = q * (D * D') + y * D := by rw [Int.add_mul]; congr 1; ac_rfl
  rw [a1, a2]
  omega

set_option maxRecDepth 100000 in
theorem More_ind (k : Nat) : ∀ (N D N' D' : Int) (w : World), (0 ≤ N ∧ N ≤ 4611686018427387904) → (0 < D ∧ D ≤ 4611686018427387904) → (0 ≤ N' ∧ N' ≤ 4611686018427387904) → (0 < D' ∧ D' ≤ 4611686018427387904) → D.toNat + D'.toNat ≤ k →
    Calls Try.prog 54 #[.agg #[.int .i64 N, .int .i64 D], .agg #[.int .i64 N', .int .i64 D']] w (RetB (decide (N' * D < N * D')) w) := by
  induction k with
  | zero => intro N D N' D' w h1 h2 h3 h4 h5; omega
  | succ k ih =>
    intro N D N' D' w h1 h2 h3 h4 h5
    have z1 : D ≠ 0 := by omega
    have z2 : D' ≠ 0 := by omega
    have t1 : wrap64 (N.tdiv D) = N / D := wrap_tdiv h1.1 (by omega) h2.1
    have t2 : wrap64 (N'.tdiv D') = N' / D' := wrap_tdiv h3.1 (by omega) h4.1
    have u1 : N.tmod D = N % D := Int.tmod_eq_emod_of_nonneg h1.1
    have u2 : N'.tmod D' = N' % D' := Int.tmod_eq_emod_of_nonneg h3.1
    have r1 := Int.emod_nonneg N z1
    have r2 := Int.emod_nonneg N' z2
    have s1 := Int.emod_lt_of_pos N h2.1
    have s2 := Int.emod_lt_of_pos N' h4.1
    have g0 : Gr w ((w.alloc (.cells #[.int .i64 N, .int .i64 D] 37)).alloc (.cells #[.int .i64 N', .int .i64 D'] 37)) := ((Gr.refl w).alloc _).alloc _
    by_cases hq : N / D = N' / D'
    · have d1 : (N / D != N' / D') = false := by simp [hq]
      have MR := Lib.hid (more_r hq)
      clear hq
      generalize N % D = x at *
      generalize N' % D' = y at *
      by_cases hy : y = 0
      · have d2 : (y == 0) = true := by simp [hy]
        have V := Lib.hid (show decide (0 < x) = decide (N' * D < N * D') by
          rw [decide_eq_decide, MR.out, hy, Int.zero_mul]
          constructor
          · intro h; exact Int.mul_pos h h4.1
          · intro h
            rcases Int.lt_or_le 0 x with g | g
            · exact g
            · have : x = 0 := by omega
              rw [this, Int.zero_mul] at h; omega)
        by_cases hx : x = 0
        · have d3 : (x == 0) = true := by simp [hx]
          clear MR ih h1 h2 h3 h4 h5 r1 r2 s1 s2 hx hy
          go_enter Try.func54, Try.ntmps54
          go_wp2_with fail
          go_quiet (fail)
          go_wp2_with fail
          go_quiet (fail)
          go_wp2_with fail
          go_ret
          exact ⟨by rw [← V.out]; rfl, g0.drewN _⟩
        · have d3 : (x == 0) = false := by simp [hx]
          clear MR ih h1 h2 h3 h4 h5 r1 r2 s1 s2 hx hy
          go_enter Try.func54, Try.ntmps54
          go_wp2_with fail
          go_quiet (fail)
          go_wp2_with fail
          go_quiet (fail)
          go_wp2_with fail
          go_ret
          exact ⟨by rw [← V.out]; rfl, g0.drewN _⟩
      · have d2 : (y == 0) = false := by simp [hy]
        by_cases hx : x = 0
        · have d3 : (x == 0) = true := by simp [hx]
          have V := Lib.hid (show false = decide (N' * D < N * D') by
            have : ¬ (N' * D < N * D') := by
              rw [MR.out, hx, Int.zero_mul]
              have := Int.mul_nonneg r2 (Int.le_of_lt h2.1)
              omega
            simp; omega)
          clear MR ih h1 h2 h3 h4 h5 r1 r2 s1 s2 hx hy
          go_enter Try.func54, Try.ntmps54
          go_wp2_with fail
          go_quiet (fail)
          go_wp2_with fail
          go_quiet (fail)
          go_wp2_with fail
          go_ret
          exact ⟨by rw [← V.out]; rfl, g0.drewN _⟩
        · have d3 : (x == 0) = false := by simp [hx]
          have IH := Lib.hid (fun w1 => show Calls Try.prog 54 #[.agg #[.int .i64 D', .int .i64 y], .agg #[.int .i64 D, .int .i64 x]] w1 (RetB (decide (N' * D < N * D')) w1) by
            have := ih D' y D x w1 (by omega) (by omega) (by omega) (by omega) (by omega)
            rwa [show decide (D * y < D' * x) = decide (N' * D < N * D') by rw [decide_eq_decide, MR.out, Int.mul_comm D y, Int.mul_comm D' x]] at this)
          clear MR ih h1 h2 h3 h4 h5 r1 r2 s1 s2 hx hy
          go_enter Try.func54, Try.ntmps54
          go_wp2_with fail
          go_quiet (fail)
          go_wp2_with fail
          go_quiet (fail)
          go_wp2_with fail
          refine (IH.out _).mono ?_
          rintro e w1 ⟨rfl, g1⟩
          go_wp2_with fail
          go_ret
          exact ⟨rfl, (g0.drewN _).trans g1⟩
    · have d1 : (N / D != N' / D') = true := by simp [hq]
      have V := Lib.hid (more_q h2.1 h4.1 hq)
      clear hq ih h1 h2 h3 h4 h5 r1 r2 s1 s2 u1 u2
      go_enter Try.func54, Try.ntmps54
      go_wp2_with fail
      go_quiet (fail)
      go_wp2_with fail
      go_quiet (fail)
      go_wp2_with fail
      go_ret
      exact ⟨by rw [← V.out]; rfl, (g0.drewN _).drewN _⟩

theorem More_any (N D N' D' : Int) (w : World) (h1 : 0 ≤ N ∧ N ≤ 4611686018427387904) (h2 : 0 < D ∧ D ≤ 4611686018427387904) (h3 : 0 ≤ N' ∧ N' ≤ 4611686018427387904) (h4 : 0 < D' ∧ D' ≤ 4611686018427387904) :
    Calls Try.prog 54 #[.agg #[.int .i64 N, .int .i64 D], .agg #[.int .i64 N', .int .i64 D']] w (RetB (decide (N' * D < N * D')) w) :=
  More_ind (D.toNat + D'.toNat) N D N' D' w h1 h2 h3 h4 (Nat.le_refl _)

end Go.Proofs.Ytdlbgelidcfmiaa
