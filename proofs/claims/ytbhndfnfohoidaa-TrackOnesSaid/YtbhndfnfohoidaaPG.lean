/- Weights and costs: the plain law: the weights that are told prove just the least cost, and no weights prove more. -/
import Derived.Test.YtbhndfnfohoidaaPF
import Derived.Test.YtbhndfnfohoidaaWD
namespace Go.Proofs.Ytbhndfnfohoidaa
open Go.Firn

/-- Weighted rests of a line, where both sums are 0. -/
theorem sm_rest {n : Nat} {X Y W : Nat → Int} {A B D : Int} (h1 : sm W n = 0) (h2 : sm (fun j => W j * X j) n = 0) : sm (fun j => W j * rs (X j) (Y j) A B D) n = sm (fun j => W j * Y j) n * D := by
  have e : sm (fun j => W j * rs (X j) (Y j) A B D) n = sm (fun j => 1 * (D * (W j * Y j) + -A * (W j * X j)) + -B * W j) n := sm_congr fun j _ => by unfold rs; grind
  rw [e, sm_lin (fun j => D * (W j * Y j) + -A * (W j * X j)) W 1 (-B), sm_lin (fun j => W j * Y j) (fun j => W j * X j) D (-A), h1, h2]
  grind
theorem ab_mul_le {w m r : Int} (h : -m ≤ w ∧ w ≤ m) : w * r ≤ m * ab r := by
  rcases ab_cases r with ⟨h0, e⟩ | ⟨h0, e⟩
  · rw [e]; exact Int.mul_le_mul_of_nonneg_right h.2 (by omega)
  · rw [e]
    have := Int.mul_le_mul_of_nonneg_right (show -w ≤ m by omega) (show 0 ≤ -r by omega)
    rw [Int.neg_mul_neg] at this
    exact this
theorem sm_scale {n : Nat} {f : Nat → Int} {m : Int} : sm (fun j => m * f j) n = m * sm f n := by
  have := sm_lin f (fun _ => 0) m 0 n
  simp only [Int.zero_mul, Int.add_zero] at this
  exact this
/-- No weights prove more than a line costs. -/
theorem weak {n : Nat} {X Y W : Nat → Int} {m A B D : Int} (hW : ∀ j, j < n → -m ≤ W j ∧ W j ≤ m) (h1 : sm W n = 0) (h2 : sm (fun j => W j * X j) n = 0) : sm (fun j => W j * Y j) n * D ≤ m * sumA X Y A B D n := by
  rw [← sm_rest (A := A) (B := B) h1 h2, sumA_sm, ← sm_scale]
  exact sm_le fun j hj => ab_mul_le (hW j hj)
theorem weak_least {n : Nat} {X Y W : Nat → Int} (V : VP n X Y) {q : Nat × Nat} (hq : bst n X Y (prs X n) = some q) {nw : Nat} {m N D : Int} (ha : argB n nw W m N D = true) (hp : prvB n X Y W m N D = true) : ¬ pN n X Y q * D < N * pE n X Y q := by
  obtain ⟨⟨m1, _⟩, _, hW, ⟨d1, _⟩, n0, _⟩ := argB_at ha
  unfold prvB at hp
  rw [Bool.and_eq_true, Bool.and_eq_true, decide_eq_true_eq, decide_eq_true_eq, decide_eq_true_eq] at hp
  obtain ⟨⟨s1, s2⟩, s3⟩ := hp
  have hpr := prs_pr (X := X) (Nat.le_refl n) q (bst_mem hq)
  obtain ⟨_, p1, _⟩ := pr_in V.ok hpr
  obtain ⟨_, e1, _⟩ := pr_bd V.few V.ok hpr
  have w := weak (Y := Y) (A := pA X Y q) (B := pB X Y q) (D := pD X Y q) hW s1 s2
  have r := red_mul (pS n X Y q) (pD X Y q)
  rw [show rN (pS n X Y q) (pD X Y q) = pN n X Y q from rfl, show rD (pS n X Y q) (pD X Y q) = pE n X Y q from rfl] at r
  rw [show sumA X Y (pA X Y q) (pB X Y q) (pD X Y q) n = pS n X Y q from rfl] at w
  generalize sm (fun j => W j * Y j) n = u at *
  generalize pS n X Y q = S at *
  generalize pD X Y q = d at *
  generalize pN n X Y q = P at *
  generalize pE n X Y q = E at *
  intro h
  -- N m d <= u D d <= m S D; so N d <= S D
  have a1 : N * m * d ≤ u * D * d := Int.mul_le_mul_of_nonneg_right s3 (by omega)
  have a2 : u * d * D ≤ m * S * D := Int.mul_le_mul_of_nonneg_right w (by omega)
  have a3 : m * (N * d) ≤ m * (S * D) := by
    have e1 : N * m * d = m * (N * d) := by grind
    have e2 : u * D * d = u * d * D := by grind
    have e3 : m * S * D = m * (S * D) := by grind
    omega
  have a4 : N * d ≤ S * D := Int.le_of_mul_le_mul_left a3 (by omega)
  have a5 : N * d * E ≤ S * D * E := Int.mul_le_mul_of_nonneg_right a4 (by omega)
  have a6 : d * (N * E) ≤ d * (P * D) := by
    have e1 : N * d * E = d * (N * E) := by grind
    have e2 : S * D * E = (S * E) * D := by grind
    have e3 : d * (P * D) = (P * d) * D := by grind
    rw [e3, r, ← e2, ← e1]
    exact a5
  have := Int.le_of_mul_le_mul_left a6 p1
  omega

/-- Good weights prove just the least cost. -/
theorem good_just {n : Nat} {X Y W : Nat → Int} {q : Nat × Nat} {m : Int} (hd : 0 < pD X Y q) (G : Good n X (fun j => rs (X j) (Y j) (pA X Y q) (pB X Y q) (pD X Y q)) W m) : pN n X Y q * m = sm (fun j => W j * Y j) n * pE n X Y q := by
  have r := red_mul (pS n X Y q) (pD X Y q)
  rw [show rN (pS n X Y q) (pD X Y q) = pN n X Y q from rfl, show rD (pS n X Y q) (pD X Y q) = pE n X Y q from rfl] at r
  have w := good_worth G
  rw [show sumA X Y (pA X Y q) (pB X Y q) (pD X Y q) n = pS n X Y q from rfl] at w
  generalize sm (fun j => W j * Y j) n = u at *
  generalize pS n X Y q = S at *
  generalize pD X Y q = d at *
  generalize pN n X Y q = P at *
  generalize pE n X Y q = E at *
  have : d * (P * m) = d * (u * E) := by
    have e1 : d * (P * m) = P * d * m := by grind
    have e2 : d * (u * E) = u * d * E := by grind
    rw [e1, e2, r, w]
    grind
  exact Int.eq_of_mul_eq_mul_left (by omega) this
/-- The least cost is small. -/
theorem least_small {n : Nat} {X Y : Nat → Int} (V : VP n X Y) {q : Nat × Nat} (hq : bst n X Y (prs X n) = some q) : 0 ≤ pN n X Y q ∧ pN n X Y q ≤ 2400000 := by
  have hpr := prs_pr (X := X) (Nat.le_refl n) q (bst_mem hq)
  obtain ⟨_, p1, _⟩ := pr_in V.ok hpr
  obtain ⟨⟨p0, _⟩, e1, e2⟩ := pr_bd V.few V.ok hpr
  refine ⟨p0, ?_⟩
  have b := best_all V hq 0 0 1
  have s : sumA X Y 0 0 1 n ≤ 12000 := by
    rw [sumA_sm]
    have := sm_bd (c := 1000) (f := fun i => ab (rs (X i) (Y i) 0 0 1)) (n := n) fun j hj => by
      have := V.ok j hj
      unfold InP at this
      have e : rs (X j) (Y j) 0 0 1 = Y j := by unfold rs; grind
      rw [e]
      unfold ab
      omega
    have n12 := V.few
    omega
  have r := red_mul (pS n X Y q) (pD X Y q)
  rw [show rN (pS n X Y q) (pD X Y q) = pN n X Y q from rfl, show rD (pS n X Y q) (pD X Y q) = pE n X Y q from rfl] at r
  generalize sumA X Y 0 0 1 n = T at *
  generalize pS n X Y q = S at *
  generalize pD X Y q = d at *
  generalize pN n X Y q = P at *
  generalize pE n X Y q = E at *
  rw [Int.mul_one] at b
  have c1 : S * E ≤ T * d * E := Int.mul_le_mul_of_nonneg_right b (by omega)
  have c2 : d * P ≤ d * (T * E) := by
    have e1 : T * d * E = d * (T * E) := by grind
    rw [← e1, Int.mul_comm d P, r]
    exact c1
  have c3 := Int.le_of_mul_le_mul_left c2 p1
  have c4 : T * E ≤ 12000 * E := Int.mul_le_mul_of_nonneg_right s (by omega)
  omega
/-- What Weights tells proves the least cost. -/
theorem good_proves {n : Nat} {X Y W : Nat → Int} (V : VP n X Y) {q : Nat × Nat} (hq : bst n X Y (prs X n) = some q) {m : Int} (G : Good n X (fun j => rs (X j) (Y j) (pA X Y q) (pB X Y q) (pD X Y q)) W m) :
    pvB n n X Y W m (pN n X Y q) (pE n X Y q) = true ∧ pvE n n X Y W m (pN n X Y q) (pE n X Y q) = 0 := by
  have hpr := prs_pr (X := X) (Nat.le_refl n) q (bst_mem hq)
  obtain ⟨_, p1, _⟩ := pr_in V.ok hpr
  obtain ⟨_, e1, e2⟩ := pr_bd V.few V.ok hpr
  have s := least_small V hq
  have w := good_just p1 G
  have ha : argB n n W m (pN n X Y q) (pE n X Y q) = true := argB_of ⟨by have := G.pos; omega, by have := G.most; omega⟩ (fun j hj => by have := G.bd j hj; have := ab_cases (W j); omega) ⟨by omega, by omega⟩ ⟨s.1, by omega⟩
  have hp : prvB n X Y W m (pN n X Y q) (pE n X Y q) = true := by
    unfold prvB
    rw [G.sum, G.mom, w]
    simp
  unfold pvB pvE
  rw [vP_iff.2 V, ha, hp]
  exact ⟨rfl, rfl⟩
/-- No line costs less than the least cost. -/
theorem no_less {n : Nat} {X Y : Nat → Int} (V : VP n X Y) {q : Nat × Nat} (hq : bst n X Y (prs X n) = some q) {A B D : Int} (hD : 0 < D) : ¬ rN (sumA X Y A B D n) D * pE n X Y q < pN n X Y q * rD (sumA X Y A B D n) D := by
  have hpr := prs_pr (X := X) (Nat.le_refl n) q (bst_mem hq)
  obtain ⟨_, p1, _⟩ := pr_in V.ok hpr
  have := best_all V hq A B D
  intro h
  have := (red_lt (n := sumA X Y A B D n) (d := D) (n' := pS n X Y q) (d' := pD X Y q) hD p1).1 h
  omega

end Go.Proofs.Ytbhndfnfohoidaa
