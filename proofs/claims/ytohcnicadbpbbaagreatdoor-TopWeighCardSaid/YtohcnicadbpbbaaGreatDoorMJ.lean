/- The plain law of merged odds: no greater area, no farther apart (the texts of the door, turned). -/
import Derived.Test.YtohcnicadbpbbaaGreatDoorMI
import Derived.Test.YtohcnicadbpbbaaGreatDoorXT
namespace Go.Proofs.YtohcnicadbpbbaaGreatDoor

/-- What an outcome gains at the price 1. -/
def oneG (f g : Nat → Int) (n a : Nat) : Int := g a * sm f n - f a * sm g n

theorem one_sum (f g : Nat → Int) (n : Nat) (p : Nat → Bool) :
    sm (fun a => if p a then g a else 0) n * 1 * sm f n - 1 * sm (fun a => if p a then f a else 0) n * sm g n = sm (fun a => if p a then oneG f g n a else 0) n := by
  have e : sm (fun a => if p a then oneG f g n a else 0) n = sm (fun a => (if p a then g a else 0) * sm f n + (if p a then f a else 0) * (-sm g n)) n :=
    sm_congr fun a _ => by
      unfold oneG
      cases p a with
      | false => simp
      | true =>
        show g a * sm f n - f a * sm g n = g a * sm f n + f a * (-sm g n)
        rw [Int.mul_neg]; omega
  rw [e, sm_add, sm_mulr, sm_mulr, Int.mul_neg, Int.mul_one, Int.one_mul]
  omega

theorem gS_one (f g : Nat → Int) (n s : Nat) : gS f g n 1 1 s = sm (fun a => if s.testBit a then oneG f g n a else 0) n := by
  unfold gS kS
  exact one_sum f g n s.testBit

theorem gS_far (f g : Nat → Int) (n s : Nat) : gS f g n 1 1 s ≤ apP f g n := by
  rw [gS_one]
  unfold apP
  refine sm_mono fun a _ => ?_
  cases s.testBit a with
  | false => exact Int.le_max_left ..
  | true => exact Int.le_max_right ..

theorem far_is (f g : Nat → Int) (n : Nat) : topV f g n 1 1 = apP f g n := by
  refine Int.le_antisymm (by unfold topV; exact gS_far ..) ?_
  let p : Nat → Bool := fun a => decide (0 < oneG f g n a)
  have C := cut_onL p n
  have h := gnV_top (f := f) (g := g) (P := 1) (D := 1) C
  unfold gnV at h
  rw [kp_onL, kp_onL, one_sum] at h
  refine Int.le_trans (Int.le_of_eq ?_) h
  unfold apP
  refine sm_congr fun a _ => ?_
  show max 0 (oneG f g n a) = if decide (0 < oneG f g n a) = true then oneG f g n a else 0
  by_cases t : 0 < oneG f g n a
  · rw [if_pos (decide_eq_true t)]; omega
  · rw [if_neg (by simpa using t)]; omega

theorem ap_swap (f g : Nat → Int) (n : Nat) : apP g f n = apP f g n := by
  have e : apA g f n = apA f g n := sm_congr fun a _ => by omega
  rw [ap_two, ap_two] at e
  omega

theorem mg_apart (f g : Nat → Int) {n i j : Nat} (hij : i < j) (hj : j < n) : apP (mgF f i j) (mgF g i j) (n - 1) ≤ apP f g n := by
  rw [← far_is]
  unfold topV
  obtain ⟨s, hs, e⟩ := set_of (unM (drB (mgF f i j) (mgF g i j) (n - 1) 1 1).testBit i j) n
  have ef : kS f s n = kS (mgF f i j) (drB (mgF f i j) (mgF g i j) (n - 1) 1 1) (n - 1) := (e f).trans (unM_sum f _ hij hj).symm
  have eg : kS g s n = kS (mgF g i j) (drB (mgF f i j) (mgF g i j) (n - 1) 1 1) (n - 1) := (e g).trans (unM_sum g _ hij hj).symm
  refine Int.le_trans (Int.le_of_eq ?_) (gS_far f g n s)
  unfold gS
  rw [ef, eg, mg_sum f hij hj, mg_sum g hij hj]

theorem mg_le {K h : Nat → Int} {n i j : Nat} (hij : i < j) (hj : j < n) (hk : ∀ p, p < n - 1 → K p ≤ (if p < j then h p else h (p + 1)) + (if p = i then h j else 0)) : sm K (n - 1) ≤ sm h n := by
  refine Int.le_trans (sm_mono hk) ?_
  rw [sm_add, sm_only _ (by omega)]
  have := sm_skip h (j := j) (N := n - 1) (by omega)
  rw [show n - 1 + 1 = n by omega] at this
  exact Int.le_of_eq this

theorem max_two (a b c d : Int) : max (a + b) (c + d) ≤ max a c + max b d := by omega

/-- What a pair of weights shares with all. -/
def shr (f g : Nat → Int) (n : Nat) (u v : Int) : Int := sm (fun b => max (v * f b) (g b * u)) n

theorem shr_two (f g : Nat → Int) (n : Nat) (u v u' v' : Int) : shr f g n (u + u') (v + v') ≤ shr f g n u v + shr f g n u' v' := by
  unfold shr
  rw [← sm_add]
  refine sm_mono fun b _ => ?_
  rw [Int.add_mul, Int.mul_add]
  exact max_two ..

theorem shr_mg (f g : Nat → Int) {n i j : Nat} (hij : i < j) (hj : j < n) (u v : Int) : shr (mgF f i j) (mgF g i j) (n - 1) u v ≤ shr f g n u v := by
  unfold shr
  refine mg_le hij hj fun p _ => ?_
  unfold mgF
  by_cases t : p < j
  · simp only [if_pos t]
    by_cases e : p = i
    · simp only [if_pos e]
      rw [Int.mul_add, Int.add_mul]
      exact max_two ..
    · simp only [if_neg e]
      simp
  · simp only [if_neg t, if_neg (show ¬ p = i by omega)]
    simp

theorem mg_mx (f g : Nat → Int) {n i j : Nat} (hij : i < j) (hj : j < n) : mxS (mgF f i j) (mgF g i j) (n - 1) ≤ mxS f g n := by
  show sm (fun a => shr (mgF f i j) (mgF g i j) (n - 1) (mgF f i j a) (mgF g i j a)) (n - 1) ≤ sm (fun a => shr f g n (f a) (g a)) n
  refine mg_le hij hj fun p _ => Int.le_trans (shr_mg f g hij hj _ _) ?_
  unfold mgF
  by_cases t : p < j
  · simp only [if_pos t]
    by_cases e : p = i
    · simp only [if_pos e]
      exact shr_two ..
    · simp only [if_neg e]
      simp
  · simp only [if_neg t, if_neg (show ¬ p = i by omega)]
    simp

theorem mg_all {f : Nat → Int} (hf : ∀ k, 0 ≤ f k) (i j p : Nat) : 0 ≤ mgF f i j p := by
  have a := hf j
  have b := hf p
  have c := hf (p + 1)
  unfold mgF
  split <;> split <;> omega

theorem mg_mor {f g : Nat → Int} {n i j : Nat} (hf : ∀ k, 0 ≤ f k) (hg : ∀ k, 0 ≤ g k) (pf : 0 < sm f n) (pg : 0 < sm g n) (hij : i < j) (hj : j < n) : Mor (mgF f i j) (mgF g i j) (n - 1) f g n := by
  unfold Mor
  rw [mg_sum f hij hj, mg_sum g hij hj, arA_mx (mg_all hf i j) (mg_all hg i j) (by omega), arA_mx hf hg (by omega)]
  have m := Int.mul_pos pf pg
  have m2 : 0 ≤ 2 * sm f n * sm g n := by rw [Int.mul_assoc]; omega
  exact ⟨Int.mul_le_mul_of_nonneg_right (mg_mx f g hij hj) m2, Int.mul_le_mul_of_nonneg_right (mg_apart f g hij hj) (by omega)⟩

end Go.Proofs.YtohcnicadbpbbaaGreatDoor
