/- Plain law of TickGrows: how much the time grows in a step, and that the least speed is least. -/
import Derived.Test.YtdlbgelidcfmiaaGreatDoorW25
import Derived.Test.YtdlbgelidcfmiaaGreatDoorP8
namespace Go.Proofs.YtdlbgelidcfmiaaGreatDoor

theorem frac_trans {a b c d e f : Int} (hb : 0 < b) (hd : 0 < d) (hf : 0 < f) (h1 : a * d ≤ c * b) (h2 : c * f ≤ e * d) : a * f ≤ e * b := by
  have m1 := Int.mul_le_mul_of_nonneg_right h1 (Int.le_of_lt hf)
  have m2 := Int.mul_le_mul_of_nonneg_right h2 (Int.le_of_lt hb)
  have e1 : a * d * f = a * f * d := by ac_rfl
  have e2 : c * b * f = c * f * b := by ac_rfl
  have e3 : e * d * b = e * b * d := by ac_rfl
  have m : a * f * d ≤ e * b * d := by omega
  exact Int.le_of_mul_le_mul_right m hd

theorem mn_min {f g : Nat → Int} : ∀ {k : Nat}, (∀ i, i ≤ k → 0 < g i) → ∀ i, i ≤ k → f (mnI f g k) * g i ≤ f i * g (mnI f g k)
  | 0, _, i, hi => by
    have : i = 0 := by omega
    subst this
    exact Int.le_refl _
  | k + 1, hg, i, hi => by
    have ih := mn_min (f := f) (g := g) (k := k) (fun i hi => hg i (by omega))
    have gm := hg (mnI f g k) (by have := mnI_le f g k; omega)
    have gk := hg (k + 1) (Nat.le_refl _)
    have gi := hg i hi
    unfold mnI
    by_cases h : f (k + 1) * g (mnI f g k) < f (mnI f g k) * g (k + 1)
    · rw [if_pos h]
      by_cases e : i = k + 1
      · subst e; exact Int.le_refl _
      · exact frac_trans gk gm gi (Int.le_of_lt h) (ih i (by omega))
    · rw [if_neg h]
      by_cases e : i = k + 1
      · subst e; omega
      · exact ih i (by omega)
theorem mx_max {f g : Nat → Int} : ∀ {k : Nat}, (∀ i, i ≤ k → 0 < g i) → ∀ i, i ≤ k → f i * g (mxI f g k) ≤ f (mxI f g k) * g i
  | 0, _, i, hi => by
    have : i = 0 := by omega
    subst this
    exact Int.le_refl _
  | k + 1, hg, i, hi => by
    have ih := mx_max (f := f) (g := g) (k := k) (fun i hi => hg i (by omega))
    have gm := hg (mxI f g k) (by have := mxI_le f g k; omega)
    have gk := hg (k + 1) (Nat.le_refl _)
    have gi := hg i hi
    unfold mxI
    by_cases h : f (mxI f g k) * g (k + 1) < f (k + 1) * g (mxI f g k)
    · rw [if_pos h]
      by_cases e : i = k + 1
      · subst e; exact Int.le_refl _
      · exact frac_trans gi gm gk (ih i (by omega)) (Int.le_of_lt h)
    · rw [if_neg h]
      by_cases e : i = k + 1
      · subst e; omega
      · exact ih i (by omega)

theorem next_line {n : Nat} {L T : Nat → Int} (x : Int) (hv : vK n L T = true) :
    ix (pA L (x + 1)) n = ix (pA L x) n ∨ (ix (pA L (x + 1)) n = ix (pA L x) n + 1 ∧ L (ix (pA L x) n + 1) = x + 1) := by
  obtain ⟨h2, _, _, hs⟩ := vK_true.1 hv
  have hi := ix_le (pA L x) n
  have hj := ix_le (pA L (x + 1)) n
  have yi := fun m (h : 0 < m) (h' : m ≤ ix (pA L x) n) => ix_yes (p := pA L x) (n := n) h h'
  have yj := fun m (h : 0 < m) (h' : m ≤ ix (pA L (x + 1)) n) => ix_yes (p := pA L (x + 1)) (n := n) h h'
  have ni := ix_no (pA L x) n
  have nj := ix_no (pA L (x + 1)) n
  simp only [pA, decide_eq_true_eq, decide_eq_false_iff_not] at yi yj ni nj
  generalize ix (pA L x) n = i at *
  generalize ix (pA L (x + 1)) n = j at *
  by_cases h : j ≤ i
  · left
    by_cases e : j = i
    · exact e
    · have a := yi (j + 1) (by omega) (by omega)
      rcases nj with b | b <;> omega
  · right
    have a := yj (i + 1) (by omega) (by omega)
    have b : L (i + 1) = x + 1 := by rcases ni with b | b <;> omega
    refine ⟨?_, b⟩
    by_cases e : j = i + 1
    · exact e
    · have c := yj (i + 2) (by omega) (by omega)
      have d := (hs (i + 1) (by omega)).1
      rw [show i + 1 + 1 = i + 2 by omega] at d
      omega

theorem same_time {n : Nat} {L T : Nat → Int} (x : Int) (hv : vK n L T = true) :
    aN L T (ix (pA L (x + 1)) n) (x + 1) * aD L (ix (pA L x) n) = aN L T (ix (pA L x) n) (x + 1) * aD L (ix (pA L (x + 1)) n) := by
  rcases next_line x hv with h | ⟨h, e⟩
  · rw [h]
  · rw [h]
    generalize ix (pA L x) n = i at *
    have z : x + 1 - L (i + 1) = 0 := by omega
    have y : x + 1 - L i = L (i + 1) - L i := by omega
    have e1 : aN L T (i + 1) (x + 1) = T (i + 1) * aD L (i + 1) := by
      unfold aN aD
      rw [z, Int.zero_mul, Int.zero_add]
    have e2 : aN L T i (x + 1) = T (i + 1) * aD L i := by
      have a1 : (L (i + 1) - L i) * (T (i + 1) - T i) = (T (i + 1) - T i) * (L (i + 1) - L i) := Int.mul_comm _ _
      have a2 : (T (i + 1) - T i) * (L (i + 1) - L i) = T (i + 1) * (L (i + 1) - L i) - T i * (L (i + 1) - L i) := Int.sub_mul _ _ _
      unfold aN aD
      rw [y]
      omega
    rw [e1, e2]
    ac_rfl

theorem step_speed {n : Nat} {L T : Nat → Int} (x : Int) (hv : vK n L T = true) :
    rN (AN n L T (x + 1) * AD n L T x - AN n L T x * AD n L T (x + 1)) (AD n L T x * AD n L T (x + 1)) = SN n L T x ∧
    rD (AN n L T (x + 1) * AD n L T x - AN n L T x * AD n L T (x + 1)) (AD n L T x * AD n L T (x + 1)) = SD n L T x := by
  have st := same_time x hv
  obtain ⟨d1, _⟩ := aD_bd hv (pA L x)
  obtain ⟨d2, _⟩ := aD_bd hv (pA L (x + 1))
  have p1 := (AD_bd x hv).1
  have p2 := (AD_bd (x + 1) hv).1
  have m1 := red_mul (aN L T (ix (pA L x) n) x) (aD L (ix (pA L x) n))
  have m2 := red_mul (aN L T (ix (pA L (x + 1)) n) (x + 1)) (aD L (ix (pA L (x + 1)) n))
  change AN n L T x * aD L (ix (pA L x) n) = aN L T (ix (pA L x) n) x * AD n L T x at m1
  change AN n L T (x + 1) * aD L (ix (pA L (x + 1)) n) = aN L T (ix (pA L (x + 1)) n) (x + 1) * AD n L T (x + 1) at m2
  have gr : aN L T (ix (pA L x) n) (x + 1) = aN L T (ix (pA L x) n) x + aD T (ix (pA L x) n) := by
    have a : (x + 1 - L (ix (pA L x) n)) * (T (ix (pA L x) n + 1) - T (ix (pA L x) n)) = (x - L (ix (pA L x) n)) * (T (ix (pA L x) n + 1) - T (ix (pA L x) n)) + (T (ix (pA L x) n + 1) - T (ix (pA L x) n)) := by
      rw [show x + 1 - L (ix (pA L x) n) = x - L (ix (pA L x) n) + 1 by omega, Int.add_mul, Int.one_mul]
    unfold aN aD
    omega
  unfold SN SD
  generalize AN n L T x = a at *
  generalize AD n L T x = b at *
  generalize AN n L T (x + 1) = c at *
  generalize AD n L T (x + 1) = d at *
  generalize aN L T (ix (pA L (x + 1)) n) (x + 1) = u at *
  generalize aN L T (ix (pA L x) n) (x + 1) = v at *
  generalize aN L T (ix (pA L x) n) x = t at *
  generalize aD L (ix (pA L (x + 1)) n) = r at *
  generalize aD L (ix (pA L x) n) = s at *
  generalize aD T (ix (pA L x) n) = q at *
  have m3 : c * s = v * d := by
    have e : c * s * r = v * d * r := by
      have e1 : c * s * r = c * r * s := by ac_rfl
      have e2 : u * d * s = u * s * d := by ac_rfl
      have e3 : v * r * d = v * d * r := by ac_rfl
      rw [e1, m2, e2, st, e3]
    exact Int.eq_of_mul_eq_mul_right (by omega) e
  refine red_eq (Int.mul_pos (by omega) (by omega)) d1 ?_
  have e1 : (c * b - a * d) * s = c * b * s - a * d * s := Int.sub_mul _ _ _
  have e2 : c * b * s = c * s * b := by ac_rfl
  have e3 : a * d * s = a * s * d := by ac_rfl
  have e4 : v * d * b = v * (b * d) := by ac_rfl
  have e5 : t * b * d = t * (b * d) := by ac_rfl
  have e6 : v * (b * d) = t * (b * d) + q * (b * d) := by rw [gr, Int.add_mul]
  rw [e1, e2, e3, m3, m1, e4, e5, e6]
  omega

end Go.Proofs.YtdlbgelidcfmiaaGreatDoor
