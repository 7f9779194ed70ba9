/- Raised and turned points: the plain law: their least cost and least width are the same. -/
import Derived.Test.YtbhndfnfohoidaaPG
namespace Go.Proofs.Ytbhndfnfohoidaa
open Go.Firn

/-- Each line has one whose rests at the other points are as great. -/
def Lik (n : Nat) (X Y X' Y' : Nat → Int) : Prop := ∀ A B D, 0 < D → ∃ A' B', ∀ j, j < n → ab (rs (X' j) (Y' j) A' B' D) = ab (rs (X j) (Y j) A B D)
theorem Lik.sum {n : Nat} {X Y X' Y' : Nat → Int} (h : Lik n X Y X' Y') (A B : Int) {D : Int} (hD : 0 < D) : ∃ A' B', sumA X' Y' A' B' D n = sumA X Y A B D n ∧ maxA X' Y' A' B' D n = maxA X Y A B D n := by
  obtain ⟨A', B', e⟩ := h A B D hD
  refine ⟨A', B', ?_, ?_⟩
  · rw [sumA_sm, sumA_sm]; exact sm_congr e
  · have : ∀ k, k ≤ n → maxA X' Y' A' B' D k = maxA X Y A B D k := by
      intro k
      induction k with
      | zero => intro _; rfl
      | succ k ih =>
        intro hk
        unfold maxA
        rw [ih (by omega), e k (by omega)]
    exact this n (Nat.le_refl n)
theorem turned_lik (n : Nat) (X Y : Nat → Int) : Lik n X Y (fun j => -X j) Y := fun A B D _ => ⟨-A, B, fun j _ => by
  congr 1
  unfold rs
  rw [Int.neg_mul_neg]⟩
theorem turned_back (n : Nat) (X Y : Nat → Int) : Lik n (fun j => -X j) Y X Y := fun A B D _ => ⟨-A, B, fun j _ => by
  congr 1
  unfold rs
  rw [Int.mul_neg, Int.neg_mul]⟩
/-- Raised by a slope and a number. -/
def rz (X Y : Nat → Int) (s u : Int) (j : Nat) : Int := Y j + (s * X j + u)
theorem raised_lik (n : Nat) (X Y : Nat → Int) (s u : Int) : Lik n X Y X (rz X Y s u) := fun A B D _ => ⟨A + s * D, B + u * D, fun j _ => by
  congr 1
  unfold rs rz
  grind⟩
theorem raised_back (n : Nat) (X Y : Nat → Int) (s u : Int) : Lik n X (rz X Y s u) X Y := fun A B D _ => ⟨A - s * D, B - u * D, fun j _ => by
  congr 1
  unfold rs rz
  grind⟩
theorem turned_valid {n : Nat} {X Y : Nat → Int} (V : VP n X Y) : VP n (fun j => -X j) Y where
  two := V.two
  few := V.few
  ok j hj := by have := V.ok j hj; unfold InP at *; omega
  far := by obtain ⟨i, hi, h⟩ := V.far; exact ⟨i, hi, by show -X i ≠ -X 0; omega⟩
theorem raised_valid {n : Nat} {X Y : Nat → Int} (V : VP n X Y) {s u : Int} (h : ∀ j, j < n → InP (X j) (rz X Y s u j)) : VP n X (rz X Y s u) where
  two := V.two
  few := V.few
  ok := h
  far := V.far

/-- The same least cost. -/
theorem lik_cost {n : Nat} {X Y X' Y' : Nat → Int} (V : VP n X Y) (V' : VP n X' Y') {q q' : Nat × Nat} (hq : bst n X Y (prs X n) = some q) (hq' : bst n X' Y' (prs X' n) = some q') (h : Lik n X Y X' Y') (h' : Lik n X' Y' X Y) :
    pN n X' Y' q' = pN n X Y q ∧ pE n X' Y' q' = pE n X Y q := by
  obtain ⟨_, p1, _⟩ := pr_in V.ok (prs_pr (X := X) (Nat.le_refl n) q (bst_mem hq))
  obtain ⟨_, p2, _⟩ := pr_in V'.ok (prs_pr (X := X') (Nat.le_refl n) q' (bst_mem hq'))
  obtain ⟨A, B, e, _⟩ := h.sum (pA X Y q) (pB X Y q) p1
  obtain ⟨A', B', e', _⟩ := h'.sum (pA X' Y' q') (pB X' Y' q') p2
  have b1 := best_all V' hq' A B (pD X Y q)
  have b2 := best_all V hq A' B' (pD X' Y' q')
  rw [e] at b1
  rw [e'] at b2
  exact red_eq (n := pS n X' Y' q') (n' := pS n X Y q) p2 p1 (by unfold pS at *; omega)
/-- The same least width. -/
theorem lik_width {n : Nat} {X Y X' Y' : Nat → Int} (V : VP n X Y) (V' : VP n X' Y') (h : Lik n X Y X' Y') (h' : Lik n X' Y' X Y) :
    (witS X' Y' (wits n X')).N = (witS X Y (wits n X)).N ∧ (witS X' Y' (wits n X')).D = (witS X Y (wits n X)).D := by
  obtain ⟨⟨x1, x2⟩, xl⟩ := axis_ok V
  obtain ⟨⟨y1, y2⟩, yl⟩ := axis_ok V'
  obtain ⟨v, e, _, he, e1, e2, _, hb, _⟩ := told_any V
  obtain ⟨v', e', _, he', e1', e2', _, hb', _⟩ := told_any V'
  have xd : 0 < (axL n X Y (witS X Y (wits n X)).l).D := by have := xl.2.2.1; omega
  have yd : 0 < (axL n X' Y' (witS X' Y' (wits n X')).l).D := by have := yl.2.2.1; omega
  obtain ⟨A, B, _, ex⟩ := h.sum (axL n X Y (witS X Y (wits n X)).l).A (axL n X Y (witS X Y (wits n X)).l).B xd
  obtain ⟨A', B', _, ey⟩ := h'.sum (axL n X' Y' (witS X' Y' (wits n X')).l).A (axL n X' Y' (witS X' Y' (wits n X')).l).B yd
  have a1 := hb' A B _ xd
  have a2 := hb A' B' _ yd
  rw [ex] at a1
  rw [ey] at a2
  generalize (axL n X Y (witS X Y (wits n X)).l).D = d at *
  generalize (axL n X' Y' (witS X' Y' (wits n X')).l).D = d' at *
  generalize maxA X Y (axL n X Y (witS X Y (wits n X)).l).A (axL n X Y (witS X Y (wits n X)).l).B d n = M at *
  generalize maxA X' Y' (axL n X' Y' (witS X' Y' (wits n X')).l).A (axL n X' Y' (witS X' Y' (wits n X')).l).B d' n = M' at *
  -- M / d = v / e, M' / d' = v' / e', and v' d ≤ M e', v d' ≤ M' e
  have r1 : M * e = v * d := by
    have k1 := red_mul M d
    have k2 := red_mul v e
    rw [x1, x2, e1, e2] at k1
    have p := rD_pos v he
    have : rD v e * (M * e) = rD v e * (v * d) := by grind
    exact Int.eq_of_mul_eq_mul_left (by omega) this
  have r2 : M' * e' = v' * d' := by
    have k1 := red_mul M' d'
    have k2 := red_mul v' e'
    rw [y1, y2, e1', e2'] at k1
    have p := rD_pos v' he'
    have : rD v' e' * (M' * e') = rD v' e' * (v' * d') := by grind
    exact Int.eq_of_mul_eq_mul_left (by omega) this
  rw [e1, e2, e1', e2']
  refine red_eq he' he ?_
  have b1 : v' * e ≤ v * e' := by
    have c1 : v' * d * e ≤ M * e' * e := Int.mul_le_mul_of_nonneg_right a1 (by omega)
    have c2 : d * (v' * e) ≤ d * (v * e') := by
      have f1 : v' * d * e = d * (v' * e) := by grind
      have f2 : M * e' * e = (M * e) * e' := by grind
      have f3 : d * (v * e') = (v * d) * e' := by grind
      rw [f3, ← r1, ← f2, ← f1]
      exact c1
    exact Int.le_of_mul_le_mul_left c2 xd
  have b2 : v * e' ≤ v' * e := by
    have c1 : v * d' * e' ≤ M' * e * e' := Int.mul_le_mul_of_nonneg_right a2 (by omega)
    have c2 : d' * (v * e') ≤ d' * (v' * e) := by
      have f1 : v * d' * e' = d' * (v * e') := by grind
      have f2 : M' * e * e' = (M' * e') * e := by grind
      have f3 : d' * (v' * e) = (v' * d') * e := by grind
      rw [f3, ← r2, ← f2, ← f1]
      exact c1
    exact Int.le_of_mul_le_mul_left c2 yd
  omega

/-- Two points alone cost nothing. -/
theorem cost_two {n : Nat} {X Y : Nat → Int} (V : VP n X Y) {q : Nat × Nat} (hq : bst n X Y (prs X n) = some q) (h : n = 2) : pN n X Y q = 0 := by
  have hp := prs_pr (X := X) (Nat.le_refl n) q (bst_mem hq)
  subst h
  have own := on_own (Y := Y) hp.2.2
  have i1 := hp.1
  have i2 := hp.2.1
  have q0 : q.1 = 0 := by omega
  have q1 : q.2 = 1 := by omega
  have s : pS 2 X Y q = 0 := by
    unfold pS
    rw [sumA_sm]
    show 0 + ab (rs (X 0) (Y 0) (pA X Y q) (pB X Y q) (pD X Y q)) + ab (rs (X 1) (Y 1) (pA X Y q) (pB X Y q) (pD X Y q)) = 0
    have o1 : rs (X 0) (Y 0) (pA X Y q) (pB X Y q) (pD X Y q) = 0 := by have := own.1; rw [q0, q1] at this; unfold pA pB pD; rw [q0, q1]; exact this
    have o2 : rs (X 1) (Y 1) (pA X Y q) (pB X Y q) (pD X Y q) = 0 := by have := own.2; rw [q0, q1] at this; unfold pA pB pD; rw [q0, q1]; exact this
    rw [o1, o2]
    decide
  unfold pN
  rw [s]
  show 0 / _ = 0
  exact Int.zero_ediv _

/-- Whether all raised points are in range. -/
def raB (n : Nat) (X Y : Nat → Int) (s u : Int) : Bool := (List.range n).all fun j => inPB (X j) (rz X Y s u j)
theorem raB_iff {n : Nat} {X Y : Nat → Int} {s u : Int} : raB n X Y s u = true ↔ ∀ j, j < n → InP (X j) (rz X Y s u j) := by
  unfold raB
  simp only [List.all_eq_true, List.mem_range, inPB_iff]
theorem raB_no {n k : Nat} {X Y : Nat → Int} {s u : Int} (hk : k < n) (h : inPB (X k) (rz X Y s u k) = false) : raB n X Y s u = false := by
  rw [Bool.eq_false_iff]
  intro h2
  have := inPB_iff.2 (raB_iff.1 h2 k hk)
  rw [h] at this
  cases this
/-- Points with different X stay in range by small numbers alone. -/
theorem raB_small {n : Nat} {X Y : Nat → Int} {s u : Int} (V : VP n X Y) (h : raB n X Y s u = true) : (-4000 ≤ s ∧ s ≤ 4000) ∧ -402000 ≤ u ∧ u ≤ 402000 := by
  obtain ⟨i, hi, hx⟩ := V.far
  have h0 := V.two
  have a := raB_iff.1 h i hi
  have b := raB_iff.1 h 0 (by omega)
  have c := V.ok i hi
  have d := V.ok 0 (by omega)
  unfold InP rz at *
  have e : s * (X i - X 0) = s * X i - s * X 0 := Int.mul_sub s (X i) (X 0)
  have m := ab_mul s (X i - X 0)
  have p : 1 ≤ ab (X i - X 0) := by unfold ab; omega
  have l : ab s * 1 ≤ ab s * ab (X i - X 0) := Int.mul_le_mul_of_nonneg_left p (ab_nonneg s)
  have r : ab (s * (X i - X 0)) ≤ 4000 := by unfold ab; omega
  have q : ab s ≤ 4000 := by omega
  have sb := ab_le.1 q
  have k := mul_bd (a := s) (b := X 0) (A := 4000) (B := 100) sb.1 sb.2 (by omega) (by omega)
  omega

end Go.Proofs.Ytbhndfnfohoidaa
