/- Plain law of TickBacks: there and back. -/
import Derived.Test.YtdlbgelidcfmiaaGreatDoorP6
namespace Go.Proofs.YtdlbgelidcfmiaaGreatDoor

theorem ixf_congr {p q : Nat → Bool} : ∀ (m i : Nat), (∀ j, i < j → j ≤ i + m → p j = q j) → ixf p m i = ixf q m i := by
  intro m
  induction m with
  | zero => intro i _; rfl
  | succ m ih =>
    intro i h
    simp only [ixf]
    rw [h (i + 1) (by omega) (by omega)]
    split
    · exact ih (i + 1) fun j h1 h2 => h j (by omega) (by omega)
    · rfl
theorem ix_congr {p q : Nat → Bool} {n : Nat} (h : ∀ j, 0 < j → j ≤ n - 2 → p j = q j) : ix p n = ix q n := ixf_congr _ _ fun j h1 h2 => h j h1 (by omega)

theorem vK_swap (n : Nat) (L T : Nat → Int) : vK n T L = vK n L T := by
  rw [Bool.eq_iff_iff, vK_true, vK_true]
  constructor
  · rintro ⟨h1, h2, h3, h4⟩; exact ⟨h1, h2, fun i hi => by have := h3 i hi; omega, fun i hi => (h4 i hi).symm⟩
  · rintro ⟨h1, h2, h3, h4⟩; exact ⟨h1, h2, fun i hi => by have := h3 i hi; omega, fun i hi => (h4 i hi).symm⟩

theorem aD_pos {n : Nat} {L T : Nat → Int} (hv : vK n L T = true) {i : Nat} (hi : i + 1 < n) : 0 < aD L i := by
  have := (vK_true.1 hv).2.2.2 i hi
  unfold aD; omega

/-- The line at x is the line of its time. -/
theorem pB_at {n : Nat} {L T : Nat → Int} {x : Int} (hv : vK n L T = true) {j : Nat} (h0 : 0 < j) (hj : j ≤ n - 2) :
    pB T (rN (aN L T (ix (pA L x) n) x) (aD L (ix (pA L x) n))) (rD (aN L T (ix (pA L x) n) x) (aD L (ix (pA L x) n))) j = pA L x j := by
  obtain ⟨h2, _, _, hs⟩ := vK_true.1 hv
  have hi := ix_le (pA L x) n
  have ascT : ∀ {j k : Nat}, j ≤ k → k < n → T j ≤ T k := fun h hk => by
    by_cases e : ‹Nat› = ‹Nat› <;> exact (by
      rename_i a b
      by_cases e : a = b
      · subst e; exact Int.le_refl _
      · exact Int.le_of_lt (asc_lt (fun i hi => (hs i hi).2) (by omega) hk))
  have ascL : ∀ {j k : Nat}, j ≤ k → k < n → L j ≤ L k := fun h hk => by
    rename_i a b
    by_cases e : a = b
    · subst e; exact Int.le_refl _
    · exact Int.le_of_lt (asc_lt (fun i hi => (hs i hi).1) (by omega) hk)
  have hD := aD_pos hv (i := ix (pA L x) n) (by omega)
  have hyes : ∀ j, 0 < j → j ≤ ix (pA L x) n → L j ≤ x := fun j h1 h3 => by have := ix_yes h1 h3; simpa [pA] using this
  have hno : ix (pA L x) n = n - 2 ∨ x < L (ix (pA L x) n + 1) := by
    rcases ix_no (pA L x) n with h | h
    · exact .inl h
    · right; simpa [pA] using h
  generalize ix (pA L x) n = i at *
  have dL := (hs i (by omega)).1
  have dT := (hs i (by omega)).2
  have g := gcd_pos (aN L T i x) hD
  have e1 := rN_mul (aN L T i x) (aD L i)
  have e2 := rD_mul (aN L T i x) (aD L i)
  generalize rN (aN L T i x) (aD L i) = N at *
  generalize rD (aN L T i x) (aD L i) = D at *
  generalize (Int.gcd (aN L T i x) (aD L i) : Int) = G at *
  -- T j * D ≤ N exactly if T j * aD ≤ aN
  have key : T j * D ≤ N ↔ T j * aD L i ≤ aN L T i x := by
    rw [← e1, ← e2, ← Int.mul_assoc]
    constructor
    · intro h; exact Int.mul_le_mul_of_nonneg_right h (by omega)
    · intro h; exact Int.le_of_mul_le_mul_right h g
  have goal : T j * aD L i ≤ aN L T i x ↔ L j ≤ x := by
    have ex : aN L T i x = (x - L i) * (T (i + 1) - T i) + T i * aD L i := rfl
    have ey : T j * aD L i = (T j - T i) * aD L i + T i * aD L i := by rw [← Int.add_mul]; congr 1; omega
    rw [ex, ey]
    constructor
    · intro h
      apply Int.not_lt.1
      intro hlt
      -- then j is behind i
      have hji : i < j := by
        apply Nat.lt_of_not_le
        intro hle
        have := hyes j h0 hle
        omega
      have hx : x < L (i + 1) := by
        rcases hno with h | h
        · omega
        · exact h
      have a1 : (T (i + 1) - T i) * aD L i ≤ (T j - T i) * aD L i := Int.mul_le_mul_of_nonneg_right (by have := ascT (show i + 1 ≤ j by omega) (by omega); omega) (by omega)
      have a2 : (x - L i) * (T (i + 1) - T i) < aD L i * (T (i + 1) - T i) := Int.mul_lt_mul_of_pos_right (by unfold aD; omega) (by omega)
      rw [Int.mul_comm (aD L i)] at a2
      omega
    · intro h
      have hji : j ≤ i := by
        apply Nat.le_of_not_lt
        intro hlt
        rcases hno with h' | h'
        · omega
        · have := ascL (show i + 1 ≤ j by omega) (by omega)
          omega
      have hxi : L i ≤ x := hyes i (by omega) (Nat.le_refl _)
      have a1 : (T j - T i) * aD L i ≤ 0 := by
        have := ascT hji (by omega)
        have := Int.mul_le_mul_of_nonneg_right (show T j - T i ≤ 0 by omega) (show 0 ≤ aD L i by omega)
        omega
      have a2 : 0 ≤ (x - L i) * (T (i + 1) - T i) := Int.mul_nonneg (by omega) (by omega)
      omega
  rw [Bool.eq_iff_iff]
  simp only [pB, pA, decide_eq_true_eq]
  exact key.trans goal

end Go.Proofs.YtdlbgelidcfmiaaGreatDoor
