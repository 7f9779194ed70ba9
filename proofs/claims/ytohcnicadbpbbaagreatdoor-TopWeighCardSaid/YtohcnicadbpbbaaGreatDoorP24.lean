/- The price of the cut of k proves it, and no cut with as little noise has more signal than the best one: the plain law of WeighBest. -/
import Derived.Test.YtohcnicadbpbbaaGreatDoorMI
namespace Go.Proofs.YtohcnicadbpbbaaGreatDoor

theorem bef_crs {f g : Nat → Int} (hf : ∀ i, 0 ≤ f i) (hg : ∀ i, 0 ≤ g i) {a b : Nat} (h : befO f g a b = true) : 0 ≤ crs f g a b := by
  rcases befO_iff.1 h with h1 | h1
  · rcases nth_cases (hf b) (hg b) with ⟨nb, fb, gb⟩ | ⟨nb, pb⟩
    · unfold crs; rw [fb, gb]; simp
    · rcases nth_cases (hf a) (hg a) with ⟨na, fa, ga⟩ | ⟨na, pa⟩ <;> omega
  · omega
theorem sm_till (t : Nat → Int) {k : Nat} : ∀ {n : Nat}, k ≤ n → sm (fun p => if p < k then t p else 0) n = sm t k
  | 0, h => by obtain rfl : k = 0 := by omega
               rfl
  | n + 1, h => by
    by_cases e : k = n + 1
    · subst e
      exact sm_congr fun p hp => if_pos hp
    · have ih := sm_till t (k := k) (n := n) (by omega)
      show sm (fun p => if p < k then t p else 0) n + (if n < k then t n else 0) = sm t k
      rw [ih, if_neg (by omega)]; omega
theorem pri_prc {f g : Nat → Int} {n r : Nat} (V : VO n n f g) (rn : r < n) (h0 : f r ≠ 0) : Prc (rN (g r * sm f n) (f r * sm g n)) (rD (g r * sm f n) (f r * sm g n)) := by
  have a := V.noise.ok r rn
  have b := V.signal.ok r rn
  have c := sm_pos_bd V.noise
  have d := sm_pos_bd V.signal
  have m1 := Int.mul_le_mul a.2 d.2 (by omega) (by omega)
  have m2 := Int.mul_le_mul b.2 c.2 (by omega) (by omega)
  have p1 : 0 < f r * sm g n := Int.mul_pos (by omega) d.1
  have p2 : 0 ≤ g r * sm f n := Int.mul_nonneg b.1 (by omega)
  have x := rD_pos (n := g r * sm f n) p1
  have y := rD_le (n := g r * sm f n) p1
  have z := rN_nonneg (d := f r * sm g n) p2
  have u := rN_le (d := f r * sm g n) p2
  exact ⟨⟨by omega, by omega⟩, z, by omega⟩
/-- What an outcome gains at a price. -/
def trm (f g : Nat → Int) (n : Nat) (P D : Int) (a : Nat) : Int := g a * (D * sm f n) + f a * (-(P * sm g n))
theorem trm_sum (f g u v : Nat → Int) (n k : Nat) (P D : Int) : sm v k * D * sm f n - P * sm u k * sm g n = sm (fun p => v p * (D * sm f n) + u p * (-(P * sm g n))) k := by
  rw [sm_add, sm_mulr, sm_mulr, Int.mul_neg, Int.mul_assoc]
  have : P * sm u k * sm g n = sm u k * (P * sm g n) := by ac_rfl
  omega
theorem trm_key {f g : Nat → Int} {n r : Nat} (a : Nat) :
    trm f g n (rN (g r * sm f n) (f r * sm g n)) (rD (g r * sm f n) (f r * sm g n)) a * (Int.gcd (g r * sm f n) (f r * sm g n) : Int) = sm f n * sm g n * crs f g a r := by
  have e1 := rN_mul (g r * sm f n) (f r * sm g n)
  have e2 := rD_mul (g r * sm f n) (f r * sm g n)
  unfold trm crs
  generalize rN (g r * sm f n) (f r * sm g n) = P at *
  generalize rD (g r * sm f n) (f r * sm g n) = D at *
  generalize (Int.gcd (g r * sm f n) (f r * sm g n) : Int) = G at *
  have x : g a * (D * sm f n) * G = g a * sm f n * (D * G) := by ac_rfl
  have y : f a * (P * sm g n) * G = f a * sm g n * (P * G) := by ac_rfl
  rw [Int.add_mul, Int.mul_neg, Int.neg_mul, x, y, e1, e2, Int.mul_sub]
  have z : g a * sm f n * (f r * sm g n) = sm f n * sm g n * (g a * f r) := by ac_rfl
  have t : f a * sm g n * (g r * sm f n) = sm f n * sm g n * (g r * f a) := by ac_rfl
  omega
theorem pos_of_mul {x G : Int} (hG : 0 < G) (h : 0 ≤ x * G) : 0 ≤ x := by
  by_cases t : 0 ≤ x
  · exact t
  · have := Int.mul_neg_of_neg_of_pos (show x < 0 by omega) hG
    omega
theorem neg_of_mul {x G : Int} (hG : 0 < G) (h : x * G ≤ 0) : x ≤ 0 := by
  by_cases t : x ≤ 0
  · exact t
  · have := Int.mul_pos (show 0 < x by omega) hG
    omega
/-- THE PRICE OF A CUT OF k PROVES IT. -/
theorem cut_top {f g : Nat → Int} {n j : Nat} (V : VO n n f g) (hf : ∀ i, 0 ≤ f i) (hg : ∀ i, 0 ≤ g i) (hj : j < n) (h0 : f (rowN f g n j) ≠ 0) :
    gnV f g n (rN (g (rowN f g n j) * sm f n) (f (rowN f g n j) * sm g n)) (rD (g (rowN f g n j) * sm f n) (f (rowN f g n j) * sm g n)) (nf (cN f g n (j + 1))) (cN f g n (j + 1)).length
      = topV f g n (rN (g (rowN f g n j) * sm f n) (f (rowN f g n j) * sm g n)) (rD (g (rowN f g n j) * sm f n) (f (rowN f g n j) * sm g n)) := by
  have O := ord_row hf hg (show 0 < n by omega)
  have key : ∀ a, trm f g n (rN (g (rowN f g n j) * sm f n) (f (rowN f g n j) * sm g n)) (rD (g (rowN f g n j) * sm f n) (f (rowN f g n j) * sm g n)) a * _ = _ := fun a => trm_key (f := f) (g := g) (n := n) (r := rowN f g n j) a
  have rn := O.bd j hj
  have s1 := V.noise.pos
  have s2 := V.signal.pos
  have fr : 0 < f (rowN f g n j) := by have := hf (rowN f g n j); omega
  have hG := gcd_pos (g (rowN f g n j) * sm f n) (Int.mul_pos fr s2)
  have ss := Int.mul_pos s1 s2
  refine Int.le_antisymm (gnV_top (cN_cut f g n (j + 1))) ?_
  generalize rN (g (rowN f g n j) * sm f n) (f (rowN f g n j) * sm g n) = P at *
  generalize rD (g (rowN f g n j) * sm f n) (f (rowN f g n j) * sm g n) = D at *
  generalize (Int.gcd (g (rowN f g n j) * sm f n) (f (rowN f g n j) * sm g n) : Int) = G at *
  have lo : ∀ p, p < j + 1 → 0 ≤ trm f g n P D (rowN f g n p) := fun p hp => by
    refine pos_of_mul hG ?_
    rw [key]
    refine Int.mul_nonneg (Int.le_of_lt ss) ?_
    by_cases e : p = j
    · rw [e, crs_self]; exact Int.le_refl 0
    · exact bef_crs hf hg (O.lt (befO_tr hf hg) p j (by omega) (by omega))
  have hi : ∀ p, p < n → ¬ p < j + 1 → trm f g n P D (rowN f g n p) ≤ 0 := fun p hp hq => by
    refine neg_of_mul hG ?_
    rw [key]
    have t := bef_crs hf hg (O.lt (befO_tr hf hg) j p (by omega) (by omega))
    rw [crs_swap, Int.mul_neg]
    have := Int.mul_nonneg (Int.le_of_lt ss) t
    omega
  unfold gnV topV gS kS
  generalize drB f g n P D = s
  rw [kp_cut hf hg (by omega) (by omega), kp_cut hf hg (by omega) (by omega), trm_sum, trm_sum]
  have e1 : sm (fun p => (if s.testBit p then g p else 0) * (D * sm f n) + (if s.testBit p then f p else 0) * (-(P * sm g n))) n = sm (fun a => if s.testBit a then trm f g n P D a else 0) n :=
    sm_congr fun a _ => by
      unfold trm
      cases s.testBit a <;> simp
  rw [e1, ← sm_row f g (fun a => if s.testBit a then trm f g n P D a else 0) (show 0 < n by omega)]
  refine Int.le_trans (sm_mono (g := fun p => if p < j + 1 then trm f g n P D (rowN f g n p) else 0) fun p hp => ?_) (Int.le_of_eq (sm_till _ (by omega)))
  by_cases q : p < j + 1
  · rw [if_pos q]
    have := lo p q
    split
    · exact Int.le_refl _
    · exact this
  · rw [if_neg q]
    have := hi p hp q
    split
    · exact this
    · exact Int.le_refl 0

/-- Which sets have as little noise. -/
theorem be_iff {f : Nat → Int} {n : Nat} {N : Int} (hs : 0 < sm f n) (s : Nat) : beQ f n (rN N (sm f n)) (rD N (sm f n)) s = true ↔ kS f s n ≤ N := by
  have e1 := rN_mul N (sm f n)
  have e2 := rD_mul N (sm f n)
  have hD := rD_pos (n := N) hs
  have hG := gcd_pos N hs
  unfold beQ
  rw [decide_eq_true_iff]
  generalize rN N (sm f n) = A at *
  generalize rD N (sm f n) = D at *
  generalize (Int.gcd N (sm f n) : Int) = G at *
  have e3 : A * sm f n = N * D := by rw [← e2, ← e1]; ac_rfl
  rw [e3]
  exact ⟨fun h => Int.le_of_mul_le_mul_right h hD, fun h => Int.mul_le_mul_of_nonneg_right h (Int.le_of_lt hD)⟩
theorem be_noi {f : Nat → Int} {n : Nat} {N : Int} (V : VW n f) (h : 0 ≤ N ∧ N ≤ sm f n) : Noi (rN N (sm f n)) (rD N (sm f n)) := by
  have s := sm_pos_bd V
  have a := rD_pos (n := N) s.1
  have b := rD_le (n := N) s.1
  have c := rN_nonneg (d := sm f n) h.1
  exact ⟨⟨by omega, by omega⟩, c, Int.ediv_le_ediv (gcd_pos N s.1) h.2⟩
variable {f g : Nat → Int} {n : Nat} {N : Int}
/-- The best cut has as little noise. -/
theorem be_low (V : VO n n f g) (h : 0 ≤ N ∧ N ≤ sm f n) : kS f (beB f g n (rN N (sm f n)) (rD N (sm f n))) n ≤ N :=
  (be_iff V.noise.pos _).1 (best_is (g := g) (be_noi V.noise h) V.noise).ok
/-- And no cut with as little noise has more signal. -/
theorem be_top (V : VO n n f g) (h : 0 ≤ N ∧ N ≤ sm f n) {q : Nat} {u : Nat → Int} (C : Cut n q u) (hu : kp f u q ≤ N) : kp g u q ≤ kS g (beB f g n (rN N (sm f n)) (rD N (sm f n))) n := by
  rw [C.kp] at hu ⊢
  exact (best_is (g := g) (be_noi V.noise h) V.noise).max (cutS_lt C) ((be_iff V.noise.pos _).2 hu)
/-- The best cut of as little noise as the cut of k has its signal. -/
theorem be_same (V : VO n n f g) (hf : ∀ i, 0 ≤ f i) (hg : ∀ i, 0 ≤ g i) {j : Nat} (hj : j < n) (h0 : f (rowN f g n j) ≠ 0) {h : Nat → Int} {q : Nat} (e : nf (cN f g n (j + 1)) = h) (eq : (cN f g n (j + 1)).length = q) :
    kS g (beB f g n (rN (kp f h q) (sm f n)) (rD (kp f h q) (sm f n))) n = kp g h q := by
  subst e eq
  have C := cN_cut f g n (j + 1)
  have b := kp_all3 C V.noise hf
  have t := be_low (g := g) V b
  refine Int.le_antisymm ?_ (be_top V b C (Int.le_refl _))
  rw [← kp_cS] at t ⊢
  exact proved_best V (pri_prc V ((ord_row hf hg (by omega)).bd j hj) h0) (cS_cut n _) (cut_top V hf hg hj h0) t

end Go.Proofs.YtohcnicadbpbbaaGreatDoor
