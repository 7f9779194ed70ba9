/- The reference's longest layer: what its loops have come to. -/
import Derived.Test.YthgbnjndljjbgaaDoorP4
namespace Go.Firn

/-- What the hits know of: those below A wholly, and A of the hits below B. -/
def knowP (n : Nat) (P T : Nat → Int) (A B a : Nat) : Nat := if a < A then knowM n P T a else if a = A then mk (fun i => decide (n - 1 - i < B) && cmpd P T a (n - 1 - i)) n else 0
theorem knowP_zero (n : Nat) (P T : Nat → Int) (a : Nat) : knowP n P T 0 0 a = 0 := by
  unfold knowP
  rw [if_neg (by omega)]
  split
  · refine Nat.eq_of_testBit_eq fun i => ?_
    rw [mk_bit]; simp
  · rfl
theorem knowP_next {n : Nat} {P T : Nat → Int} {A a : Nat} : knowP n P T A n a = knowP n P T (A + 1) 0 a := by
  have z : ∀ x, mk (fun i => decide (n - 1 - i < 0) && cmpd P T x (n - 1 - i)) n = 0 := fun x => by
    refine Nat.eq_of_testBit_eq fun i => ?_
    rw [mk_bit]; simp
  unfold knowP
  by_cases h : a < A
  · rw [if_pos h, if_pos (by omega)]
  · rw [if_neg h]
    by_cases e : a = A
    · subst e
      rw [if_pos rfl, if_pos (by omega)]
      unfold knowM
      refine Nat.eq_of_testBit_eq fun i => ?_
      rw [mk_bit, mk_bit]
      by_cases hi : i < n
      · have : n - 1 - i < n := by omega
        simp [hi, this]
      · simp [hi]
    · rw [if_neg e, if_neg (by omega), z]
      split <;> rfl
theorem knowP_yes {n : Nat} {P T : Nat → Int} {A B a : Nat} (hB : B < n) (h : cmpd P T A B = true) : (if a = A then knowP n P T A B A ||| 2 ^ (n - 1 - B) else knowP n P T A B a) = knowP n P T A (B + 1) a := by
  by_cases e : a = A
  · subst e
    rw [if_pos rfl]
    unfold knowP
    rw [if_neg (by omega), if_pos rfl, if_neg (by omega), if_pos rfl]
    refine Nat.eq_of_testBit_eq fun i => ?_
    rw [Nat.testBit_or, mk_bit, mk_bit, Nat.testBit_two_pow]
    by_cases hi : i < n
    · by_cases e2 : n - 1 - B = i
      · have e3 : n - 1 - i = B := by omega
        simp [hi, e2, e3, h]
      · have : (n - 1 - i < B) ↔ (n - 1 - i < B + 1) := by omega
        simp [hi, e2, this]
    · have : ¬ n - 1 - B = i := by omega
      simp [hi, this]
  · rw [if_neg e]
    unfold knowP
    simp only [if_neg e]
theorem knowP_no {n : Nat} {P T : Nat → Int} {A B a : Nat} (h : cmpd P T A B = false) : knowP n P T A B a = knowP n P T A (B + 1) a := by
  unfold knowP
  by_cases h1 : a < A
  · rw [if_pos h1, if_pos h1]
  · rw [if_neg h1, if_neg h1]
    by_cases e : a = A
    · subst e
      rw [if_pos rfl, if_pos rfl]
      refine Nat.eq_of_testBit_eq fun i => ?_
      rw [mk_bit, mk_bit]
      by_cases hi : i < n
      · by_cases e2 : n - 1 - i = B
        · simp [e2, h]
        · have : (n - 1 - i < B) ↔ (n - 1 - i < B + 1) := by omega
          simp [hi, this]
      · simp [hi]
    · rw [if_neg e, if_neg e]
theorem knowP_end {n : Nat} {P T : Nat → Int} {a : Nat} (h : a < n) : knowP n P T n 0 a = knowM n P T a := by
  unfold knowP
  rw [if_pos h]
theorem knowP_lt {n : Nat} {P T : Nat → Int} {A B a : Nat} : knowP n P T A B a < 2 ^ n := by
  unfold knowP
  split
  · exact mk_lt _ _
  · split
    · exact mk_lt _ _
    · exact Nat.two_pow_pos n

/-- The sets tried are free as far as the hits below k say. -/
def freesK (n : Nat) (L : Nat → Nat) (r k : Nat) : Bool := (List.range k).all fun a => !(r.testBit (n - 1 - a)) || L a &&& r == 0
theorem freesK_zero (n : Nat) (L : Nat → Nat) (r : Nat) : freesK n L r 0 = true := rfl
theorem freesK_succ (n : Nat) (L : Nat → Nat) (r k : Nat) : freesK n L r (k + 1) = (freesK n L r k && (!(r.testBit (n - 1 - k)) || L k &&& r == 0)) := by
  unfold freesK
  rw [List.range_succ, List.all_append]
  simp
theorem freesK_end (n : Nat) (L : Nat → Nat) (r : Nat) : freesK n L r n = frees n L r := rfl
theorem pick_eq (n : Nat) (L : Nat → Nat) (r best : Nat) : pick n L r best = if frees n L r = true ∧ cnt best.testBit n < cnt (fun a => r.testBit (n - 1 - a)) n then r else best := by
  unfold pick
  rw [cnt_rev]
theorem down_snoc (n : Nat) (L : Nat → Nat) (c r best : Nat) : down n L (c + 1) r best = pick n L (r - c) (down n L c r best) := by
  rw [down_add]
  rfl
theorem pick_zero (n : Nat) (L : Nat → Nat) (best : Nat) : pick n L 0 best = best := by
  unfold pick
  rw [if_neg]
  rintro ⟨_, h⟩
  have : cnt (0 : Nat).testBit n = 0 := by
    rw [← els_length, els_nil]; rfl
  omega
/-- What is best when the sets above s have been tried. -/
def downS (n : Nat) (L : Nat → Nat) (s : Nat) : Nat := down n L (2 ^ n - 1 - s) (2 ^ n - 1) 0
theorem downS_top (n : Nat) (L : Nat → Nat) : downS n L (2 ^ n - 1) = 0 := by
  unfold downS
  rw [Nat.sub_self]; rfl
theorem downS_next {n : Nat} {L : Nat → Nat} {s : Nat} (h0 : 0 < s) (h : s < 2 ^ n) : downS n L (s - 1) = pick n L s (downS n L s) := by
  unfold downS
  rw [show 2 ^ n - 1 - (s - 1) = (2 ^ n - 1 - s) + 1 by omega, down_snoc]
  congr 1; omega
theorem downS_end (n : Nat) (L : Nat → Nat) : downS n L 0 = down n L (2 ^ n) (2 ^ n - 1) 0 := by
  have := Nat.two_pow_pos n
  have e : down n L (2 ^ n - 1 + 1) (2 ^ n - 1) 0 = down n L (2 ^ n) (2 ^ n - 1) 0 := by congr 1; omega
  rw [← e, down_snoc, Nat.sub_self, pick_zero]
  rfl
theorem downS_lt {n : Nat} {L : Nat → Nat} : ∀ {d s : Nat}, s + d = 2 ^ n - 1 → downS n L s < 2 ^ n := by
  intro d
  induction d with
  | zero => intro s hs; have : s = 2 ^ n - 1 := by omega
            rw [this, downS_top]; exact Nat.two_pow_pos n
  | succ d ih =>
    intro s hs
    have h1 := ih (s := s + 1) (by omega)
    have h2 := downS_next (n := n) (L := L) (s := s + 1) (by omega) (by have := Nat.two_pow_pos n; omega)
    rw [Nat.add_sub_cancel] at h2
    rw [h2]
    unfold pick
    split
    · have := Nat.two_pow_pos n; omega
    · exact h1

end Go.Firn
