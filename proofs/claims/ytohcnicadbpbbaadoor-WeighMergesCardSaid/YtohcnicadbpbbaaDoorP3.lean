/- How many come before: the place of an outcome in a row in order. -/
import Derived.Test.YtohcnicadbpbbaaDoorP2
namespace Go.Proofs.YtohcnicadbpbbaaDoor

/-- How many of the first n are so. -/
def cntP (q : Nat → Bool) : Nat → Nat
  | 0 => 0
  | k + 1 => cntP q k + (if q k then 1 else 0)
theorem cntP_congr {q q' : Nat → Bool} : ∀ {n : Nat}, (∀ b, b < n → q b = q' b) → cntP q n = cntP q' n
  | 0, _ => rfl
  | n + 1, h => by
    show cntP q n + _ = cntP q' n + _
    rw [cntP_congr (fun b hb => h b (by omega)), h n (by omega)]
theorem cntP_lt (p : Nat) : ∀ (n : Nat), p ≤ n → cntP (fun b => decide (b < p)) n = p
  | 0, h => by rw [Nat.le_zero.1 h]; rfl
  | n + 1, h => by
    show cntP (fun b => decide (b < p)) n + _ = p
    rcases Nat.lt_or_ge n p with h1 | h1
    · have e : cntP (fun b => decide (b < p)) n = n := by
        have := cntP_congr (q := fun b => decide (b < p)) (q' := fun b => decide (b < n)) (n := n) (fun b hb => by simp; omega)
        rw [this]; exact cntP_lt n n (Nat.le_refl n)
      rw [e]
      simp [h1]
      omega
    · rw [cntP_lt p n h1]
      simp
      omega

theorem cntP_swp (q : Nat → Bool) (R : Nat → Nat) {j : Nat} : ∀ {n : Nat}, j + 1 < n → cntP (fun p => q (swp R (j + 1) p)) n = cntP (fun p => q (R p)) n
  | 0, h => by omega
  | n + 1, h => by
    show cntP (fun p => q (swp R (j + 1) p)) n + (if q (swp R (j + 1) n) then 1 else 0) = cntP (fun p => q (R p)) n + (if q (R n) then 1 else 0)
    rcases Nat.lt_or_ge (j + 1) n with h1 | h1
    · rw [cntP_swp q R h1, swp_far R (by omega) (by omega)]
    · obtain rfl : n = j + 1 := by omega
      rw [swp_hi]
      show cntP (fun p => q (swp R (j + 1) p)) j + (if q (swp R (j + 1) j) then 1 else 0) + _ = cntP (fun p => q (R p)) j + (if q (R j) then 1 else 0) + _
      rw [swp_lo, cntP_congr (q := fun p => q (swp R (j + 1) p)) (q' := fun p => q (R p)) (n := j) (fun b hb => by rw [swp_far R (by omega) (by omega)])]
      omega
theorem insI_cnt (q : Nat → Bool) (lt : Nat → Nat → Bool) {n : Nat} : ∀ (j : Nat) (R : Nat → Nat), j < n → cntP (fun p => q (insI lt j R p)) n = cntP (fun p => q (R p)) n
  | 0, _, _ => rfl
  | j + 1, R, h => by
    rw [insI_succ]
    split
    · rw [insI_cnt q lt j _ (by omega), cntP_swp q R h]
    · rfl
theorem insO_cnt (q : Nat → Bool) (lt : Nat → Nat → Bool) {n : Nat} : ∀ (m i : Nat) (R : Nat → Nat), m + i = n → cntP (fun p => q (insO lt m i R p)) n = cntP (fun p => q (R p)) n
  | 0, _, _, _ => rfl
  | m + 1, i, R, h => by
    show cntP (fun p => q (insO lt m (i + 1) (insI lt i R) p)) n = _
    rw [insO_cnt q lt m (i + 1) _ (by omega), insI_cnt q lt i R (by omega)]

theorem Ord.lt {bef : Nat → Nat → Bool} (tr : ∀ a b c, bef a b = true → bef b c = true → bef a c = true) {n i : Nat} {R : Nat → Nat} (h : Ord bef n i R) (p : Nat) :
    ∀ (r : Nat), p < r → r < i → bef (R p) (R r) = true
  | 0, hp, _ => by omega
  | r + 1, hp, hr => by
    rcases Nat.lt_or_ge p r with h1 | h1
    · exact tr _ _ _ (Ord.lt tr h p r h1 (by omega)) (h.up r hr)
    · rw [show p = r by omega]; exact h.up r hr

/-- The place of an outcome is the count of those before it. -/
theorem place {lt bef : Nat → Nat → Bool} (tr : ∀ a b c, bef a b = true → bef b c = true → bef a c = true) (tot : ∀ a b, bef a b = false → a ≠ b → bef b a = true) (irr : ∀ a, bef a a = false)
    (hl : ∀ a b, b < a → lt a b = bef a b) {n p : Nat} (hp : p < n) : cntP (fun b => bef b (insO lt (n - 1) 1 id p)) n = p := by
  have O := Ord.all tr tot hl (n - 1) 1 id (by omega) (Ord.start bef n)
  have e := insO_cnt (fun b => bef b (insO lt (n - 1) 1 id p)) lt (n := n) (n - 1) 1 id (by omega)
  refine e.symm.trans ?_
  clear e
  generalize insO lt (n - 1) 1 id = R at *
  rw [cntP_congr (q' := fun b => decide (b < p)) (fun b hb => ?_)]
  · exact cntP_lt p n (by omega)
  · rcases Nat.lt_trichotomy b p with h | h | h
    · rw [O.lt tr b p h hp]; simp [h]
    · rw [h, irr]; simp
    · have e := O.lt tr p b h hb
      cases e2 : bef (R b) (R p) with
      | false => simp; omega
      | true => have := tr _ _ _ e e2; rw [irr] at this; cases this

end Go.Proofs.YtohcnicadbpbbaaDoor
