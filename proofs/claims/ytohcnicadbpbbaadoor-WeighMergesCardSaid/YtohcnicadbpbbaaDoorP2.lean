/- Insertion sort on functions: the plain law. -/
namespace Go.Proofs.YtohcnicadbpbbaaDoor

/-- The exchange of j - 1 and j. -/
def swp (R : Nat → Nat) (j p : Nat) : Nat := if p = j then R (j - 1) else if p = j - 1 then R j else R p
/-- What stands at j goes down as long as it comes first. -/
def insI (lt : Nat → Nat → Bool) : Nat → (Nat → Nat) → Nat → Nat
  | 0, R => R
  | j + 1, R => if lt (R (j + 1)) (R j) then insI lt j (swp R (j + 1)) else R
/-- The first i are in order: all others are put in. -/
def insO (lt : Nat → Nat → Bool) : Nat → Nat → (Nat → Nat) → Nat → Nat
  | 0, _, R => R
  | m + 1, i, R => insO lt m (i + 1) (insI lt i R)

theorem insI_succ (lt : Nat → Nat → Bool) (j : Nat) (R : Nat → Nat) : insI lt (j + 1) R = if lt (R (j + 1)) (R j) then insI lt j (swp R (j + 1)) else R := rfl
theorem swp_hi (R : Nat → Nat) (j : Nat) : swp R (j + 1) (j + 1) = R j := by simp [swp]
theorem swp_lo (R : Nat → Nat) (j : Nat) : swp R (j + 1) j = R (j + 1) := by simp [swp]
theorem swp_far (R : Nat → Nat) {j p : Nat} (h1 : p ≠ j + 1) (h2 : p ≠ j) : swp R (j + 1) p = R p := by simp [swp, h1, h2]

/-- Above j nothing turns. -/
theorem insI_far (lt : Nat → Nat → Bool) : ∀ (j : Nat) (R : Nat → Nat) (p : Nat), j < p → insI lt j R p = R p
  | 0, _, _, _ => rfl
  | j + 1, R, p, h => by
    rw [insI_succ]
    split
    · rw [insI_far lt j _ p (by omega), swp_far R (by omega) (by omega)]
    · rfl

/-- The first j and what stands at j, put in: in order, if those were. -/
theorem insI_sorted {lt : Nat → Nat → Bool} (tr : ∀ a b c, lt a b = true → lt b c = true → lt a c = true) (tot : ∀ a b, lt a b = false → a ≠ b → lt b a = true) :
    ∀ (j : Nat) (R : Nat → Nat), (∀ p, p + 1 < j → lt (R p) (R (p + 1)) = true) → (∀ p, p < j → R p ≠ R j) → ∀ p, p < j → lt (insI lt j R p) (insI lt j R (p + 1)) = true
  | 0, _, _, _, _, h => by omega
  | j + 1, R, hs, hd, p, hp => by
    rw [insI_succ]
    split
    · rename_i hl
      have hs' : ∀ q, q + 1 < j → lt (swp R (j + 1) q) (swp R (j + 1) (q + 1)) = true := fun q hq => by
        rw [swp_far R (by omega) (by omega), swp_far R (by omega) (by omega)]; exact hs q (by omega)
      have hd' : ∀ q, q < j → swp R (j + 1) q ≠ swp R (j + 1) j := fun q hq => by
        rw [swp_far R (by omega) (by omega), swp_lo]; exact hd q (by omega)
      rcases Nat.lt_or_ge p j with h | h
      · exact insI_sorted tr tot j _ hs' hd' p h
      · obtain rfl : p = j := by omega
        rw [insI_far lt p _ (p + 1) (by omega), swp_hi]
        cases p with
        | zero => show lt (swp R (0 + 1) 0) (R 0) = true; rw [swp_lo]; exact hl
        | succ k =>
          rw [insI_succ]
          split
          · rw [insI_far lt k _ (k + 1) (by omega), swp_hi, swp_far R (by omega) (by omega)]
            exact hs k (by omega)
          · rw [swp_lo]; exact hl
    · rename_i hl
      rcases Nat.lt_or_ge (p + 1) (j + 1) with h | h
      · exact hs p h
      · obtain rfl : p = j := by omega
        exact tot _ _ (by simpa using hl) (fun e => hd p (by omega) e.symm)

/-- Only the comparisons of what is put in count. -/
theorem insI_congr {lt lt' : Nat → Nat → Bool} : ∀ (j : Nat) (R : Nat → Nat), (∀ p, p < j → lt (R j) (R p) = lt' (R j) (R p)) → insI lt j R = insI lt' j R
  | 0, _, _ => rfl
  | j + 1, R, h => by
    rw [insI_succ, insI_succ, ← h j (by omega)]
    split
    · refine insI_congr j _ fun p hp => ?_
      rw [swp_lo, swp_far R (by omega) (by omega)]
      exact h p (by omega)
    · rfl

/-- No two of the first n are the same. -/
def Inj (n : Nat) (R : Nat → Nat) : Prop := ∀ p q, p < n → q < n → R p = R q → p = q
theorem inj_swp {n j : Nat} {R : Nat → Nat} (h : Inj n R) (hj : j + 1 < n) : Inj n (swp R (j + 1)) := by
  have key : ∀ p, ∃ q, swp R (j + 1) p = R q ∧ ((p = j + 1 ∧ q = j) ∨ (p = j ∧ q = j + 1) ∨ (p ≠ j + 1 ∧ p ≠ j ∧ q = p)) := fun p => by
    by_cases h1 : p = j + 1
    · exact ⟨j, by rw [h1, swp_hi], .inl ⟨h1, rfl⟩⟩
    · by_cases h2 : p = j
      · exact ⟨j + 1, by rw [h2, swp_lo], .inr (.inl ⟨h2, rfl⟩)⟩
      · exact ⟨p, swp_far R h1 h2, .inr (.inr ⟨h1, h2, rfl⟩)⟩
  intro p q hp hq e
  obtain ⟨p', e1, h1⟩ := key p
  obtain ⟨q', e2, h2⟩ := key q
  have := h p' q' (by omega) (by omega) (by rw [← e1, ← e2, e])
  omega
theorem insI_inj (lt : Nat → Nat → Bool) {n : Nat} : ∀ (j : Nat) (R : Nat → Nat), j < n → Inj n R → Inj n (insI lt j R)
  | 0, _, _, h => h
  | j + 1, R, hj, h => by
    rw [insI_succ]
    split
    · exact insI_inj lt j _ (by omega) (inj_swp h hj)
    · exact h
/-- What bounds the first values bounds them still. -/
theorem insI_bd (lt : Nat → Nat → Bool) {B : Nat} : ∀ (j : Nat) (R : Nat → Nat), (∀ p, p ≤ j → R p < B) → ∀ p, p ≤ j → insI lt j R p < B
  | 0, _, h, p, hp => h p hp
  | j + 1, R, h, p, hp => by
    rw [insI_succ]
    split
    · rcases Nat.lt_or_ge j p with h1 | h1
      · rw [insI_far lt j _ p h1, show p = j + 1 by omega, swp_hi]; exact h j (by omega)
      · refine insI_bd lt j _ (fun q hq => ?_) p h1
        by_cases h2 : q = j
        · rw [h2, swp_lo]; exact h (j + 1) (by omega)
        · rw [swp_far R (by omega) h2]; exact h q (by omega)
    · exact h p hp

/-- The first i of n are in order, the others as they were. -/
structure Ord (bef : Nat → Nat → Bool) (n i : Nat) (R : Nat → Nat) : Prop where
  inj : Inj n R
  bd : ∀ p, p < i → R p < i
  rest : ∀ p, i ≤ p → R p = p
  up : ∀ p, p + 1 < i → bef (R p) (R (p + 1)) = true
theorem Ord.start (bef : Nat → Nat → Bool) (n : Nat) : Ord bef n 1 id :=
  ⟨fun _ _ _ _ e => e, fun p hp => hp, fun _ _ => rfl, fun p hp => by omega⟩
theorem Ord.step {lt bef : Nat → Nat → Bool} (tr : ∀ a b c, bef a b = true → bef b c = true → bef a c = true) (tot : ∀ a b, bef a b = false → a ≠ b → bef b a = true)
    (hl : ∀ a b, b < a → lt a b = bef a b) {n i : Nat} {R : Nat → Nat} (h : Ord bef n i R) (hi : i < n) : Ord bef n (i + 1) (insI lt i R) := by
  have hR := h.rest i (Nat.le_refl i)
  have e : insI lt i R = insI bef i R := insI_congr i R fun p hp => by rw [hR]; exact hl _ _ (h.bd p hp)
  rw [e]
  refine ⟨insI_inj bef i R hi h.inj, fun p hp => insI_bd bef i R (fun q hq => ?_) p (by omega), fun p hp => ?_, fun p hp => ?_⟩
  · rcases Nat.lt_or_ge q i with h1 | h1
    · have := h.bd q h1; omega
    · rw [show q = i by omega, hR]; omega
  · rw [insI_far bef i R p (by omega)]; exact h.rest p (by omega)
  · refine insI_sorted tr tot i R h.up (fun q hq e => ?_) p (by omega)
    have := h.bd q hq
    omega
theorem Ord.all {lt bef : Nat → Nat → Bool} (tr : ∀ a b c, bef a b = true → bef b c = true → bef a c = true) (tot : ∀ a b, bef a b = false → a ≠ b → bef b a = true)
    (hl : ∀ a b, b < a → lt a b = bef a b) {n : Nat} : ∀ (m i : Nat) (R : Nat → Nat), m + i = n → Ord bef n i R → Ord bef n n (insO lt m i R)
  | 0, i, R, e, h => by rw [show n = i by omega] at *; exact h
  | m + 1, i, R, e, h => Ord.all tr tot hl m (i + 1) _ (by omega) (h.step tr tot hl (by omega))

end Go.Proofs.YtohcnicadbpbbaaDoor
