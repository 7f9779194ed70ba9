/- Plain law of TickBacks: Back of At is the local time, At is Back of the inverse. -/
import Derived.Test.YtdlbgelidcfmiaaGreatDoorW18
import Derived.Test.YtdlbgelidcfmiaaGreatDoorP7
namespace Go.Proofs.YtdlbgelidcfmiaaGreatDoor

theorem aN_bd {n : Nat} {L T : Nat → Int} {x : Int} (hv : vK n L T = true) (hx : -200000 ≤ x ∧ x ≤ 200000) : -40000000000 ≤ aN L T (ix (pA L x) n) x ∧ aN L T (ix (pA L x) n) x ≤ 40000000000 := by
  obtain ⟨a1, a2, a3, a4, a5, a6⟩ := line_bd hv (pA L x)
  have m1 := mul_bd (a := x - L (ix (pA L x) n)) (b := T (ix (pA L x) n + 1) - T (ix (pA L x) n)) (A := 300000) (B := 100000) (by omega) (by omega) (by omega) (by omega)
  have m2 := mul_bd (a := T (ix (pA L x) n)) (b := L (ix (pA L x) n + 1) - L (ix (pA L x) n)) (A := 100000) (B := 100000) (by omega) (by omega) (by omega) (by omega)
  unfold aN
  omega
theorem aD_bd {n : Nat} {L T : Nat → Int} (hv : vK n L T = true) (p : Nat → Bool) : 0 < aD L (ix p n) ∧ aD L (ix p n) ≤ 100000 := by
  obtain ⟨a1, a2, a3, a4, a5, a6⟩ := line_bd hv p
  unfold aD
  omega
theorem AD_bd {n : Nat} {L T : Nat → Int} (x : Int) (hv : vK n L T = true) : 1 ≤ AD n L T x ∧ AD n L T x ≤ 100000 := by
  obtain ⟨d1, d2⟩ := aD_bd hv (pA L x)
  have h1 := rD_pos (aN L T (ix (pA L x) n) x) d1
  have h2 := rD_le (aN L T (ix (pA L x) n) x) d1
  unfold AD
  omega
theorem AN_bd {n : Nat} {L T : Nat → Int} {x : Int} (hv : vK n L T = true) (hx : -200000 ≤ x ∧ x ≤ 200000) : -40000000000 ≤ AN n L T x ∧ AN n L T x ≤ 40000000000 := by
  have h1 := aN_bd hv hx
  have h2 := rN_abs (n := aN L T (ix (pA L x) n) x) (aD_bd hv (pA L x)).1
  unfold AN
  omega
theorem bkR_at {n : Nat} {L T : Nat → Int} {x : Int} (hv : vK n L T = true) (hx : -200000 ≤ x ∧ x ≤ 200000) : bkR (AN n L T x) (AD n L T x) = true := by
  have h1 := AN_bd hv hx
  have h2 := AD_bd x hv
  rw [bkR_true]
  omega

theorem back_of_at {n : Nat} {L T : Nat → Int} {x : Int} (hv : vK n L T = true) : BN n L T (AN n L T x) (AD n L T x) = x ∧ BD n L T (AN n L T x) (AD n L T x) = 1 := by
  have hi : ix (pB T (AN n L T x) (AD n L T x)) n = ix (pA L x) n := ix_congr fun j h0 hj => pB_at hv h0 hj
  have h2 := (vK_true.1 hv).1
  have hlt := ix_lt h2 (pA L x)
  obtain ⟨d1, d2⟩ := aD_bd hv (pA L x)
  have hm := red_mul (aN L T (ix (pA L x) n) x) (aD L (ix (pA L x) n))
  have hp := (AD_bd x hv).1
  unfold BN BD
  rw [hi]
  change AN n L T x * aD L (ix (pA L x) n) = aN L T (ix (pA L x) n) x * AD n L T x at hm
  generalize AN n L T x = N at *
  generalize AD n L T x = D at *
  have hb := bD_pos hv hlt (D := D) (by omega)
  generalize ix (pA L x) n = i at *
  have e : bN L T i N D = x * bD T i D := by
    have e1 : aN L T i x * D = (x - L i) * (T (i + 1) - T i) * D + T i * (L (i + 1) - L i) * D := Int.add_mul _ _ _
    have e2 : (N - T i * D) * (L (i + 1) - L i) = N * (L (i + 1) - L i) - T i * D * (L (i + 1) - L i) := Int.sub_mul _ _ _
    have e3 : T i * D * (L (i + 1) - L i) = T i * (L (i + 1) - L i) * D := by ac_rfl
    have e4 : (x - L i) * (T (i + 1) - T i) * D = x * ((T (i + 1) - T i) * D) - L i * ((T (i + 1) - T i) * D) := by rw [Int.mul_assoc, Int.sub_mul]
    have e5 : N * (L (i + 1) - L i) = aN L T i x * D := hm
    show (N - T i * D) * (L (i + 1) - L i) + L i * ((T (i + 1) - T i) * D) = x * ((T (i + 1) - T i) * D)
    omega
  rw [e]
  exact red_whole hb

theorem at_inverse (n : Nat) (L T : Nat → Int) (x : Int) : BN n T L x 1 = AN n L T x ∧ BD n T L x 1 = AD n L T x := by
  have hi : ix (pB L x 1) n = ix (pA L x) n := ix_congr fun j _ _ => by simp [pB, pA]
  have e1 : ∀ i, bN T L i x 1 = aN L T i x := fun i => by simp [bN, aN]
  have e2 : ∀ i, bD L i 1 = aD L i := fun i => by simp [bD, aD]
  unfold BN BD AN AD
  rw [hi, e1, e2]
  exact ⟨rfl, rfl⟩

end Go.Proofs.YtdlbgelidcfmiaaGreatDoor
