/- Plain law of chapter 2: lists that have each hit just once. -/
import Derived.Test.YthgbnjndljjbgaaDoorP9
namespace Go.Proofs.YthgbnjndljjbgaaDoor
open Go.Firn

/-- How often x is among the first j numbers. -/
def occ1 (l : Nat → Int) : Nat → Nat → Nat
  | 0, _ => 0
  | j + 1, x => occ1 l j x + (if l j = (x : Int) then 1 else 0)
/-- How often x is in the first i lists. -/
def occ (r : Nat → Nat × (Nat → Int)) : Nat → Nat → Nat
  | 0, _ => 0
  | i + 1, x => occ r i x + occ1 (r i).2 (r i).1 x
theorem occ1_le (l : Nat → Int) (j x : Nat) : occ1 l j x ≤ j := by
  induction j with
  | zero => exact Nat.le_refl _
  | succ j ih => rw [occ1]; split <;> omega
theorem occ_le {r : Nat → Nat × (Nat → Int)} {m : Nat} (i : Nat) (h : ∀ k, k < i → (r k).1 ≤ m) (x : Nat) : occ r i x ≤ i * m := by
  induction i with
  | zero => exact Nat.zero_le _
  | succ i ih =>
    have h1 := ih fun k hk => h k (by omega)
    have h2 := occ1_le (r i).2 (r i).1 x
    have h3 := h i (by omega)
    rw [occ, Nat.succ_mul]; omega
theorem occ1_mono (l : Nat → Int) {j k : Nat} (h : j ≤ k) (x : Nat) : occ1 l j x ≤ occ1 l k x := by
  induction k with
  | zero => have : j = 0 := by omega
            subst this; exact Nat.le_refl _
  | succ k ih =>
    rcases Nat.lt_or_ge k j with e | e
    · have : j = k + 1 := by omega
      subst this; exact Nat.le_refl _
    · have := ih e; rw [occ1]; omega
theorem occ_mono (r : Nat → Nat × (Nat → Int)) {j k : Nat} (h : j ≤ k) (x : Nat) : occ r j x ≤ occ r k x := by
  induction k with
  | zero => have : j = 0 := by omega
            subst this; exact Nat.le_refl _
  | succ k ih =>
    rcases Nat.lt_or_ge k j with e | e
    · have : j = k + 1 := by omega
      subst this; exact Nat.le_refl _
    · have := ih e; rw [occ]; omega

def onceB (n N : Nat) (r : Nat → Nat × (Nat → Int)) : Bool := (List.range n).all fun x => decide (occ r N x = 1)
/-- Are lists all of a kind, and have each hit just once? -/
def areB (n : Nat) (B : Nat → (Nat → Int) → Bool) (N : Nat) (r : Nat → Nat × (Nat → Int)) : Bool :=
  decide (N ≤ 50) && ((List.range N).all fun i => B (r i).1 (r i).2) && onceB n N r
def kindK (B : Nat → (Nat → Int) → Bool) (r : Nat → Nat × (Nat → Int)) (i : Nat) : Bool := (List.range i).all fun i => B (r i).1 (r i).2
theorem kindK_zero (B : Nat → (Nat → Int) → Bool) (r : Nat → Nat × (Nat → Int)) : kindK B r 0 = true := rfl
theorem kindK_succ (B : Nat → (Nat → Int) → Bool) (r : Nat → Nat × (Nat → Int)) (i : Nat) : kindK B r (i + 1) = (kindK B r i && B (r i).1 (r i).2) := by
  unfold kindK; rw [List.range_succ, List.all_append]; simp
theorem areB_kind {n : Nat} {B : Nat → (Nat → Int) → Bool} {N : Nat} {r : Nat → Nat × (Nat → Int)} {i : Nat} (hi : i < N) (h : B (r i).1 (r i).2 = false) : areB n B N r = false := by
  have : ((List.range N).all fun i => B (r i).1 (r i).2) = false := by
    rw [List.all_eq_false]; exact ⟨i, List.mem_range.2 hi, by simp [h]⟩
  unfold areB; rw [this]; simp
theorem onceB_false {n N : Nat} {r : Nat → Nat × (Nat → Int)} {x : Nat} (hx : x < n) (h : occ r N x ≠ 1) : onceB n N r = false := by
  unfold onceB; rw [List.all_eq_false]; exact ⟨x, List.mem_range.2 hx, by simp [h]⟩
theorem areB_twice {n : Nat} {B : Nat → (Nat → Int) → Bool} {N : Nat} {r : Nat → Nat × (Nat → Int)} {i j x : Nat} (hi : i < N) (hj : j ≤ (r i).1) (hx : x < n) (h : 2 ≤ occ r i x + occ1 (r i).2 j x) : areB n B N r = false := by
  have h1 := occ1_mono (r i).2 hj x
  have h2 := occ_mono r (show i + 1 ≤ N by omega) x
  rw [occ] at h2
  unfold areB; rw [onceB_false hx (by omega)]; simp
theorem areB_done {n : Nat} {B : Nat → (Nat → Int) → Bool} {N : Nat} {r : Nat → Nat × (Nat → Int)} (h : kindK B r N = true) : areB n B N r = (decide (N ≤ 50) && onceB n N r) := by
  unfold areB
  unfold kindK at h
  rw [h]; simp

/-- The set of the hits that were seen. -/
def Seen (n : Nat) (o : Nat → Nat) (s : Nat) : Prop := s < 2 ^ n ∧ ∀ x, x < n → o x ≤ 1 ∧ s.testBit x = decide (o x = 1)
theorem Seen.zero (n : Nat) : Seen n (fun _ => 0) 0 := ⟨Nat.two_pow_pos n, fun x _ => ⟨Nat.zero_le _, by simp⟩⟩
theorem Seen.congr {n : Nat} {o o' : Nat → Nat} {s : Nat} (h : Seen n o s) (e : ∀ x, o x = o' x) : Seen n o' s := by
  have : o = o' := funext e
  rwa [← this]
theorem Seen.add {n : Nat} {o : Nat → Nat} {s y : Nat} (h : Seen n o s) (hy : y < n) (hb : s.testBit y = false) : Seen n (fun x => o x + if ((y : Nat) : Int) = (x : Int) then 1 else 0) (s ||| 2 ^ y) := by
  refine ⟨Nat.or_lt_two_pow h.1 (Nat.pow_lt_pow_right (by omega) hy), fun x hx => ?_⟩
  obtain ⟨h1, h2⟩ := h.2 x hx
  rw [Nat.testBit_or, Nat.testBit_two_pow]
  by_cases e : y = x
  · subst e
    rw [hb] at h2
    have h3 : ¬ o y = 1 := by simpa using h2.symm
    simp; omega
  · have e' : ¬ ((y : Nat) : Int) = (x : Int) := by omega
    show (o x + if ((y : Nat) : Int) = (x : Int) then 1 else 0) ≤ 1 ∧ _ = decide ((o x + if ((y : Nat) : Int) = (x : Int) then 1 else 0) = 1)
    rw [if_neg e', h2]
    simp [e]; exact h1
theorem Seen.twice {n : Nat} {o : Nat → Nat} {s y : Nat} (h : Seen n o s) (hy : y < n) (hb : s.testBit y = true) : o y = 1 := by
  obtain ⟨_, h2⟩ := h.2 y hy
  rw [hb] at h2
  exact of_decide_eq_true h2.symm
theorem Seen.done {n N : Nat} {r : Nat → Nat × (Nat → Int)} {s : Nat} (h : Seen n (occ r N) s) : onceB n N r = decide (s = 2 ^ n - 1) := by
  have hb : s = 2 ^ n - 1 ↔ ∀ x, x < n → s.testBit x = true := by
    constructor
    · intro e x hx; rw [e, Nat.testBit_two_pow_sub_one]; simpa using hx
    · intro e
      refine Nat.eq_of_testBit_eq fun i => ?_
      rw [Nat.testBit_two_pow_sub_one]
      by_cases hi : i < n
      · rw [e i hi]; simp [hi]
      · rw [bit_ge h.1 (by omega)]; simp; omega
  rw [Bool.eq_iff_iff, decide_eq_true_iff, hb]
  unfold onceB
  rw [List.all_eq_true]
  constructor
  · intro k x hx
    rw [(h.2 x hx).2]
    exact k x (List.mem_range.2 hx)
  · intro k x hx
    have := k x (List.mem_range.1 hx)
    rw [(h.2 x (List.mem_range.1 hx)).2] at this
    exact this

/-- Is there a list of more than 60 numbers, or are there more than 60 lists? -/
def wideB (N : Nat) (r : Nat → Nat × (Nat → Int)) : Bool := ((List.range N).any fun i => decide (60 < (r i).1)) || decide (60 < N)
theorem wideB_of {N i : Nat} {r : Nat → Nat × (Nat → Int)} (hi : i < N) (h : 60 < (r i).1) : wideB N r = true := by
  unfold wideB
  have : ((List.range N).any fun i => decide (60 < (r i).1)) = true := List.any_eq_true.2 ⟨i, List.mem_range.2 hi, by simpa using h⟩
  rw [this]; rfl
theorem wideB_end {N : Nat} {r : Nat → Nat × (Nat → Int)} (h : ∀ i, i < N → (r i).1 ≤ 60) : wideB N r = decide (60 < N) := by
  unfold wideB
  have : ((List.range N).any fun i => decide (60 < (r i).1)) = false := by
    rw [List.any_eq_false]; intro i hi; have := h i (List.mem_range.1 hi); simp; omega
  rw [this]; rfl
theorem wideB_false {N : Nat} {r : Nat → Nat × (Nat → Int)} (h : wideB N r = false) : N ≤ 60 ∧ ∀ i, i < N → (r i).1 ≤ 60 := by
  unfold wideB at h
  simp only [Bool.or_eq_false_iff, List.any_eq_false, decide_eq_false_iff_not, decide_eq_true_eq] at h
  refine ⟨by omega, fun i hi => ?_⟩
  have := h.1 i (List.mem_range.2 hi)
  omega

end Go.Proofs.YthgbnjndljjbgaaDoor
