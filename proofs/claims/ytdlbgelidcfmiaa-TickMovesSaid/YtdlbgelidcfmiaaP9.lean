/- Plain law of TickMoves: a clock that is moved. -/
import Derived.Test.YtdlbgelidcfmiaaW20
import Derived.Test.YtdlbgelidcfmiaaP8
namespace Go.Proofs.Ytdlbgelidcfmiaa

theorem red_add (n x : Int) {d : Int} (hd : 0 < d) : rN (n + x * d) d = rN n d + x * rD n d ∧ rD (n + x * d) d = rD n d := by
  refine cop_eq (red_cop hd) ?_ (rD_pos _ hd) (rD_pos n hd) ?_
  · have h := red_cop (n := n) hd
    have e : (rN n d + x * rD n d).gcd (rD n d) = (rN n d).gcd (rD n d) := by
      simp
    rw [e]; exact h
  · have h1 := red_mul (n + x * d) d
    have h2 := red_mul n d
    have g := rD_pos (n + x * d) hd
    generalize rN (n + x * d) d = N at *
    generalize rD (n + x * d) d = D at *
    generalize rN n d = N' at *
    generalize rD n d = D' at *
    have e : N * D' * d = (N' + x * D') * D * d := by
      have e1 : N * D' * d = N * d * D' := by ac_rfl
      have e2 : (N' + x * D') * D * d = N' * d * D + x * d * (D * D') := by
        rw [Int.mul_assoc, Int.add_mul]; congr 1 <;> ac_rfl
      have e3 : (n + x * d) * D * D' = n * D' * D + x * d * (D * D') := by
        rw [Int.add_mul, Int.add_mul]; congr 1 <;> ac_rfl
      rw [e1, e2, h1, h2, e3]
    exact Int.eq_of_mul_eq_mul_right (by omega) e

theorem vK_moved {n : Nat} {L T : Nat → Int} {x : Int} (hv : vK n L T = true) (h : mvB n T x = true) : vK n L (fun i => T i + x) = true := by
  obtain ⟨h1, h2, h3, h4⟩ := vK_true.1 hv
  refine vK_true.2 ⟨h1, h2, fun i hi => ?_, fun i hi => ?_⟩
  · have := mvB_all hv h hi
    have := h3 i hi
    omega
  · have := h4 i hi
    omega
theorem mvB_back {n : Nat} {L T : Nat → Int} {x : Int} (hv : vK n L T = true) : mvB n (fun i => T i + x) (-x) = true := by
  obtain ⟨h1, h2, h3, h4⟩ := vK_true.1 hv
  have a := h3 0 (by omega)
  have b := h3 (n - 1) (by omega)
  rw [mvB, btw_true]
  omega

theorem At_moved {n : Nat} {L T : Nat → Int} (x u : Int) (hv : vK n L T = true) : AN n L (fun i => T i + x) u = AN n L T u + x * AD n L T u ∧ AD n L (fun i => T i + x) u = AD n L T u := by
  have d := (aD_bd hv (pA L u)).1
  have e : aN L (fun i => T i + x) (ix (pA L u) n) u = aN L T (ix (pA L u) n) u + x * aD L (ix (pA L u) n) := by
    unfold aN aD
    have e1 : T (ix (pA L u) n + 1) + x - (T (ix (pA L u) n) + x) = T (ix (pA L u) n + 1) - T (ix (pA L u) n) := by omega
    rw [e1, Int.add_mul, Int.add_assoc]
  unfold AN AD
  rw [e]
  exact red_add _ _ d
theorem Speed_moved (n : Nat) (L T : Nat → Int) (x u : Int) : SN n L (fun i => T i + x) u = SN n L T u ∧ SD n L (fun i => T i + x) u = SD n L T u := by
  have e : ∀ i, aD (fun i => T i + x) i = aD T i := fun i => by simp only [aD]; omega
  unfold SN SD
  rw [e]
  exact ⟨rfl, rfl⟩
theorem mvB_bd {n : Nat} {L T : Nat → Int} {x : Int} (hv : vK n L T = true) (h : mvB n T x = true) : -100000 ≤ x ∧ x ≤ 100000 := by
  obtain ⟨h1, h2, h3, h4⟩ := vK_true.1 hv
  have a := h3 0 (by omega)
  have b := h3 (n - 1) (by omega)
  rw [mvB, btw_true] at h
  omega

end Go.Proofs.Ytdlbgelidcfmiaa
