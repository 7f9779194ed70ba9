/- Plain arithmetic of clocks: the reference's line of Back gives the same local time. -/
import Derived.Test.YtdlbgelidcfmiaaGreatDoorP5
namespace Go.Proofs.YtdlbgelidcfmiaaGreatDoor

/-- The reference's index behind k marks. -/
def rx (T : Nat → Int) (N D : Int) : Nat → Nat
  | 0 => 0
  | k + 1 => if T (k + 1) * D < N then k + 1 else rx T N D k
theorem rx_le (T : Nat → Int) (N D : Int) : ∀ k, rx T N D k ≤ k := by
  intro k
  induction k with
  | zero => simp [rx]
  | succ k ih => simp only [rx]; split <;> omega
theorem rx_ge {T : Nat → Int} {N D : Int} : ∀ {k j : Nat}, 0 < j → j ≤ k → T j * D < N → j ≤ rx T N D k := by
  intro k
  induction k with
  | zero => intro j h1 h2; omega
  | succ k ih =>
    intro j h1 h2 h3
    simp only [rx]
    split
    · omega
    · rename_i h
      by_cases e : j = k + 1
      · subst e; exact absurd h3 h
      · exact ih h1 (by omega) h3
theorem rx_yes (T : Nat → Int) (N D : Int) : ∀ k, rx T N D k = 0 ∨ T (rx T N D k) * D < N := by
  intro k
  induction k with
  | zero => left; rfl
  | succ k ih =>
    simp only [rx]
    split
    · right; assumption
    · exact ih

theorem asc_lt {n : Nat} {T : Nat → Int} (hs : ∀ i, i + 1 < n → T i < T (i + 1)) : ∀ {j k : Nat}, j < k → k < n → T j < T k := by
  intro j k
  induction k with
  | zero => intro h; omega
  | succ k ih =>
    intro h1 h2
    have := hs k h2
    by_cases e : j = k
    · subst e; exact this
    · have := ih (by omega) (by omega); omega

theorem bN_here {L T : Nat → Int} {i : Nat} {N D : Int} (h : N = T i * D) : bN L T i N D = L i * bD T i D := by
  unfold bN bD
  rw [h, Int.sub_self, Int.zero_mul, Int.zero_add]
theorem bN_next {L T : Nat → Int} {i : Nat} {N D : Int} (h : N = T (i + 1) * D) : bN L T i N D = L (i + 1) * bD T i D := by
  unfold bN bD
  rw [h, ← Int.sub_mul]
  generalize (T (i + 1) - T i) * D = R
  rw [Int.mul_comm R, ← Int.add_mul]
  congr 1
  omega

theorem bD_pos {n : Nat} {L T : Nat → Int} (hv : vK n L T = true) {i : Nat} (hi : i + 1 < n) {D : Int} (hD : 0 < D) : 0 < bD T i D := by
  have := (vK_true.1 hv).2.2.2 i hi
  exact Int.mul_pos (by omega) hD

theorem back_eq {n : Nat} {L T : Nat → Int} {N D : Int} (hv : vK n L T = true) (hD : 0 < D) :
    rN (bN L T (rx T N D (n - 2)) N D) (bD T (rx T N D (n - 2)) D) = rN (bN L T (ix (pB T N D) n) N D) (bD T (ix (pB T N D) n) D) ∧
    rD (bN L T (rx T N D (n - 2)) N D) (bD T (rx T N D (n - 2)) D) = rD (bN L T (ix (pB T N D) n) N D) (bD T (ix (pB T N D) n) D) := by
  obtain ⟨h2, _, _, hs⟩ := vK_true.1 hv
  have asc : ∀ {j k : Nat}, j < k → k < n → T j < T k := asc_lt fun i hi => (hs i hi).2
  have hi := ix_le (pB T N D) n
  have hr := rx_le T N D (n - 2)
  have yes : ∀ j, 0 < j → j ≤ ix (pB T N D) n → T j * D ≤ N := fun j h1 h3 => by
    have := ix_yes h1 h3
    simpa [pB] using this
  by_cases e : ix (pB T N D) n = rx T N D (n - 2)
  · rw [e]; exact ⟨rfl, rfl⟩
  rcases Nat.lt_or_gt_of_ne e with h | h
  · -- the reference's is behind: then the mark ahead of it is not behind the place
    exfalso
    have hlt : T (rx T N D (n - 2)) * D < N := by
      rcases rx_yes T N D (n - 2) with h0 | h0
      · omega
      · exact h0
    rcases ix_no (pB T N D) n with h0 | h0
    · omega
    · have hp : N < T (ix (pB T N D) n + 1) * D := by simpa [pB] using h0
      have : T (ix (pB T N D) n + 1) * D ≤ T (rx T N D (n - 2)) * D := by
        by_cases e2 : ix (pB T N D) n + 1 = rx T N D (n - 2)
        · rw [e2]; exact Int.le_refl _
        · exact Int.mul_le_mul_of_nonneg_right (Int.le_of_lt (asc (by omega) (by omega))) (by omega)
      omega
  · -- the program's is at a mark, the reference's just ahead of it
    obtain ⟨i, hi'⟩ : ∃ i, ix (pB T N D) n = i + 1 := ⟨ix (pB T N D) n - 1, by omega⟩
    rw [hi'] at h hi yes ⊢
    have a1 := yes (i + 1) (by omega) (Nat.le_refl _)
    have a2 : ¬ T (i + 1) * D < N := fun h3 => by have := rx_ge (k := n - 2) (by omega) hi h3; omega
    have hN : N = T (i + 1) * D := by omega
    have hri : rx T N D (n - 2) = i := by
      by_cases e0 : i = 0
      · omega
      · have : T i * D < N := by
          rw [hN]; exact Int.mul_lt_mul_of_pos_right (asc (by omega) (by omega)) hD
        have := rx_ge (k := n - 2) (j := i) (by omega) (by omega) this
        omega
    rw [hri, bN_here hN, bN_next hN]
    have w1 := red_whole (k := L (i + 1)) (bD_pos hv (i := i) (by omega) hD)
    have w2 := red_whole (k := L (i + 1)) (bD_pos hv (i := i + 1) (by omega) hD)
    rw [w1.1, w1.2, w2.1, w2.2]
    exact ⟨rfl, rfl⟩

end Go.Proofs.YtdlbgelidcfmiaaGreatDoor
