/- The plain law of TickReads: the counts of the readings of counts. -/
import Derived.Test.YtdlbgelidcfmiaaP1
namespace Go.Proofs.Ytdlbgelidcfmiaa

/-- Are the first number and the first k steps less than a round? -/
def sm (B : Int) (f : Nat → Int) : Nat → Bool
  | 0 => decide (f 0 < B)
  | k + 1 => sm B f k && decide (f (k + 1) - f k < B)

theorem cstep_mod {B now x : Int} (_hB : 0 < B) : ∃ q : Int, x - cstep B now (x % B) = q * B := by
  have h := Int.mul_ediv_add_emod x B
  unfold cstep
  split
  · refine ⟨x / B - now / B - 1, ?_⟩
    rw [Int.sub_mul, Int.sub_mul, Int.one_mul, Int.mul_comm (x / B) B]; omega
  · refine ⟨x / B - now / B, ?_⟩
    rw [Int.sub_mul, Int.mul_comm (x / B) B]; omega

theorem mul_gt_neg {q B : Int} (hB : 0 < B) (h : -B < q * B) : 0 ≤ q * B := by
  have : -1 < q := by
    have : (-1) * B < q * B := by omega
    exact Int.lt_of_mul_lt_mul_right this (by omega)
  exact Int.mul_nonneg (by omega) (by omega)
theorem mul_lt_one {q B : Int} (hB : 0 < B) (h : q * B < B) : q * B ≤ 0 := by
  have : q < 1 := by
    have : q * B < 1 * B := by omega
    exact Int.lt_of_mul_lt_mul_right this (by omega)
  have := Int.mul_le_mul_of_nonneg_right (show q ≤ 0 by omega) (show 0 ≤ B by omega)
  omega

/-- The reading of a count. -/
def rdg (B : Int) (f : Nat → Int) (k : Nat) : Int := f k % B
theorem rdg_bd {B : Int} (hB : 0 < B) (f : Nat → Int) (k : Nat) : 0 ≤ rdg B f k ∧ rdg B f k < B := ⟨Int.emod_nonneg _ (by omega), Int.emod_lt_of_pos _ hB⟩

theorem reads_le {B : Int} {f : Nat → Int} {n : Nat} (hB : 0 < B) (h0 : ∀ i, i < n → 0 ≤ f i) (hm : ∀ i, i + 1 < n → f i ≤ f (i + 1)) :
    ∀ k, k < n → cst B (rdg B f) (k + 1) ≤ f k := by
  intro k
  induction k with
  | zero =>
    intro h
    have := cstep_bd hB (Int.le_refl 0) (rdg_bd hB f 0).1 (rdg_bd hB f 0).2
    obtain ⟨q, hq⟩ := cstep_mod (now := 0) (x := f 0) hB
    change 0 ≤ cstep B 0 (f 0 % B) ∧ cstep B 0 (f 0 % B) < 0 + B at this
    have h1 : 0 ≤ q * B := mul_gt_neg hB (by have := h0 0 h; omega)
    show cstep B 0 (f 0 % B) ≤ _
    omega
  | succ k ih =>
    intro h
    have i := ih (by omega)
    have c0 := (cst_bd (n := n) hB (fun i _ => rdg_bd hB f i) (k + 1) (by omega)).1
    have := cstep_bd hB c0 (rdg_bd hB f (k + 1)).1 (rdg_bd hB f (k + 1)).2
    obtain ⟨q, hq⟩ := cstep_mod (now := cst B (rdg B f) (k + 1)) (x := f (k + 1)) hB
    have m := hm k h
    show cstep B (cst B (rdg B f) (k + 1)) (f (k + 1) % B) ≤ _
    have h1 : 0 ≤ q * B := mul_gt_neg hB (by change _ ≤ cstep B _ (f (k + 1) % B) ∧ cstep B _ (f (k + 1) % B) < _ at this; omega)
    omega

theorem reads_mod {B : Int} {f : Nat → Int} (hB : 0 < B) (k : Nat) : (f k - cst B (rdg B f) (k + 1)) % B = 0 := by
  obtain ⟨q, hq⟩ := cstep_mod (now := cst B (rdg B f) k) (x := f k) hB
  show (f k - cstep B (cst B (rdg B f) k) (f k % B)) % B = 0
  rw [hq]; exact Int.mul_emod_left _ _

theorem sm_iff {B : Int} {f : Nat → Int} {n : Nat} (hB : 0 < B) (h0 : ∀ i, i < n → 0 ≤ f i) (hm : ∀ i, i + 1 < n → f i ≤ f (i + 1)) :
    ∀ k, k < n → (sm B f k = true ↔ ∀ i, i ≤ k → cst B (rdg B f) (i + 1) = f i) := by
  intro k
  induction k with
  | zero =>
    intro h
    have b := cstep_bd hB (Int.le_refl 0) (rdg_bd hB f 0).1 (rdg_bd hB f 0).2
    obtain ⟨q, hq⟩ := cstep_mod (now := 0) (x := f 0) hB
    have le := reads_le hB h0 hm 0 h
    change 0 ≤ cstep B 0 (f 0 % B) ∧ cstep B 0 (f 0 % B) < 0 + B at b
    change cstep B 0 (f 0 % B) ≤ _ at le
    simp only [sm, decide_eq_true_eq]
    constructor
    · intro hs i hi
      obtain rfl : i = 0 := by omega
      show cstep B 0 (f 0 % B) = _
      have := mul_lt_one (q := q) hB (by omega)
      omega
    · intro hs
      have := hs 0 (by omega)
      change cstep B 0 (f 0 % B) = _ at this
      omega
  | succ k ih =>
    intro h
    have i := ih (by omega)
    have c0 := (cst_bd (n := n) hB (fun i _ => rdg_bd hB f i) (k + 1) (by omega)).1
    have b := cstep_bd hB c0 (rdg_bd hB f (k + 1)).1 (rdg_bd hB f (k + 1)).2
    obtain ⟨q, hq⟩ := cstep_mod (now := cst B (rdg B f) (k + 1)) (x := f (k + 1)) hB
    have le := reads_le hB h0 hm (k + 1) h
    change _ ≤ cstep B (cst B (rdg B f) (k + 1)) (f (k + 1) % B) ∧ cstep B (cst B (rdg B f) (k + 1)) (f (k + 1) % B) < _ at b
    change cstep B (cst B (rdg B f) (k + 1)) (f (k + 1) % B) ≤ _ at le
    simp only [sm, Bool.and_eq_true, decide_eq_true_eq, i]
    constructor
    · rintro ⟨h1, h2⟩ j hj
      by_cases e : j = k + 1
      · subst e
        show cstep B (cst B (rdg B f) (k + 1)) (f (k + 1) % B) = _
        have e1 := h1 k (by omega)
        rw [e1] at b hq le ⊢
        have := mul_lt_one (q := q) hB (by omega)
        omega
      · exact h1 j (by omega)
    · intro hs
      refine ⟨fun j hj => hs j (by omega), ?_⟩
      have e1 := hs k (by omega)
      have e2 := hs (k + 1) (by omega)
      change cstep B (cst B (rdg B f) (k + 1)) (f (k + 1) % B) = _ at e2
      omega

end Go.Proofs.Ytdlbgelidcfmiaa
