/- The axis of three points has the width that they tell: the plain law. -/
import Derived.Test.YtbhndfnfohoidaaP11
import Derived.Test.YtbhndfnfohoidaaW13
namespace Go.Proofs.Ytbhndfnfohoidaa

theorem ab_pos {x g : Int} (hg : 0 < g) : ab (x * g) = ab x * g := by
  rw [ab_mul]
  congr 1
  unfold ab; omega
theorem maxA_eq {n : Nat} {X Y : Nat → Int} {A B D m : Int} (hm : 0 ≤ m) : ∀ {k : Nat}, (∀ i, i < k → ab (rs (X i) (Y i) A B D) ≤ m) → (∃ i, i < k ∧ ab (rs (X i) (Y i) A B D) = m) → k ≤ n → maxA X Y A B D k = m := by
  have up : ∀ {k : Nat}, (∀ i, i < k → ab (rs (X i) (Y i) A B D) ≤ m) → maxA X Y A B D k ≤ m := by
    intro k
    induction k with
    | zero => intro _; exact hm
    | succ k ih =>
      intro h
      have := ih (fun i hi => h i (by omega))
      have := h k (by omega)
      rw [maxA]; omega
  have lo : ∀ {k i : Nat}, i < k → ab (rs (X i) (Y i) A B D) ≤ maxA X Y A B D k := by
    intro k
    induction k with
    | zero => intro i h; omega
    | succ k ih =>
      intro i h
      rw [maxA]
      by_cases e : i = k
      · subst e; omega
      · have := ih (i := i) (by omega); omega
  intro k h ⟨i, hi, e⟩ _
  have := up h
  have := lo (k := k) hi
  omega
theorem maxA_le {X Y : Nat → Int} {A B D : Int} : ∀ {k i : Nat}, i < k → ab (rs (X i) (Y i) A B D) ≤ maxA X Y A B D k := by
  intro k
  induction k with
  | zero => intro i h; omega
  | succ k ih =>
    intro i h
    rw [maxA]
    by_cases e : i = k
    · subst e; omega
    · have := ih (i := i) (by omega); omega

/-- The width of a line given by numbers that are not in their least form. -/
theorem made_width {n : Nat} {X Y : Nat → Int} {a b d m : Int} (hd : 0 < d) (h : ∀ i, i < n → ab (rs (X i) (Y i) a b d) ≤ m) (he : ∃ i, i < n ∧ ab (rs (X i) (Y i) a b d) = m) :
    rN (maxA X Y (mkA a b d) (mkB a b d) (mkD a b d) n) (mkD a b d) = rN m d ∧ rD (maxA X Y (mkA a b d) (mkB a b d) (mkD a b d) n) (mkD a b d) = rD m d := by
  have g0 : 0 < gk a b d := by
    have g0 := g3_pos a b (show d ≠ 0 by omega)
    unfold gk
    rw [if_neg (by omega)]
    exact g0
  have e1 := mkA_mul a b d
  have e2 := mkB_mul a b d
  have e3 := mkD_mul a b d
  have hD := mkD_pos a b (show d ≠ 0 by omega)
  have hr : ∀ x y, rs x y (mkA a b d) (mkB a b d) (mkD a b d) * gk a b d = rs x y a b d := fun x y => by
    unfold rs
    have : (y * mkD a b d - mkA a b d * x - mkB a b d) * gk a b d = y * (mkD a b d * gk a b d) - (mkA a b d * gk a b d) * x - mkB a b d * gk a b d := by
      generalize mkD a b d = p
      generalize mkA a b d = q
      generalize mkB a b d = r
      generalize gk a b d = g
      grind
    rw [this, e1, e2, e3]
  obtain ⟨i, hi, hie⟩ := he
  have hq : m = ab (rs (X i) (Y i) (mkA a b d) (mkB a b d) (mkD a b d)) * gk a b d := by rw [← ab_pos g0, hr, hie]
  have mx : maxA X Y (mkA a b d) (mkB a b d) (mkD a b d) n = ab (rs (X i) (Y i) (mkA a b d) (mkB a b d) (mkD a b d)) := by
    refine maxA_eq (n := n) (ab_nonneg _) (fun k hk => ?_) ⟨i, hi, rfl⟩ (Nat.le_refl n)
    refine div_le g0 ?_
    rw [← hq, ← ab_pos g0, hr]
    exact h k hk
  rw [mx]
  refine red_eq hD hd ?_
  rw [hq]
  generalize ab (rs (X i) (Y i) (mkA a b d) (mkB a b d) (mkD a b d)) = p at *
  have : p * d = p * (mkD a b d * gk a b d) := by rw [e3]
  rw [this]
  generalize mkD a b d = q
  generalize gk a b d = g
  grind

theorem strip2 {n : Nat} {X Y : Nat → Int} {a b c : Nat} (ha : a < n) (hb : b < n) (hc : c < n) (h1 : X a < X b) (h2 : X b < X c) (T : Top n X Y (ab (dt X Y a b c)) (2 * (X c - X a))) {q : Nat} (hq : q < n) : ab (2 * dt X Y a q c - dt X Y a b c) ≤ ab (dt X Y a b c) := by
  rcases ab_cases (dt X Y a b c) with ⟨k, e⟩ | ⟨k, e⟩
  · rw [e] at T ⊢
    have := strip ha hb hc h1 h2 T hq
    rw [ab_le]
    omega
  · have ng : ∀ i j k, dt X (fun i => -Y i) i j k = -dt X Y i j k := fun i j k => by unfold dt; grind
    have T' : Top n X (fun i => -Y i) (dt X (fun i => -Y i) a b c) (2 * (X c - X a)) := by
      rw [ng, ← e]
      refine ⟨fun i k hi hk hx => ?_, fun i j k hi hj hk h1 h2 => ?_⟩
      · have := T.two i k hi hk hx
        have e1 : ab (-Y i - -Y k) = ab (Y i - Y k) := by unfold ab; omega
        rw [e1]; exact this
      · rw [ng, ab_neg]; exact T.tri i j k hi hj hk h1 h2
    have := strip ha hb hc h1 h2 T' hq
    rw [ng, ng] at this
    rw [e, ab_le]
    omega

/-- The line through the outer ones, moved half way to the one in the middle. -/
theorem axis3 {n : Nat} {X Y : Nat → Int} (ok : ∀ i, i < n → InP (X i) (Y i)) {a b c : Nat} (ha : a < n) (hb : b < n) (hc : c < n) (h1 : X a < X b) (h2 : X b < X c) (T : Top n X Y (ab (dt X Y a b c)) (2 * (X c - X a)))
    {A B D r : Int} (hA : A = thA (X a) (Y a) (X c) (Y c)) (hB : B = thB (X a) (Y a) (X c) (Y c)) (hD : D = thD (X a) (Y a) (X c) (Y c)) (hr : r = rs (X b) (Y b) A B D) :
    (rN (maxA X Y (mkA (2 * A) (2 * B + r) (2 * D)) (mkB (2 * A) (2 * B + r) (2 * D)) (mkD (2 * A) (2 * B + r) (2 * D)) n) (mkD (2 * A) (2 * B + r) (2 * D)) = rN (ab (dt X Y a b c)) (2 * (X c - X a)) ∧
    rD (maxA X Y (mkA (2 * A) (2 * B + r) (2 * D)) (mkB (2 * A) (2 * B + r) (2 * D)) (mkD (2 * A) (2 * B + r) (2 * D)) n) (mkD (2 * A) (2 * B + r) (2 * D)) = rD (ab (dt X Y a b c)) (2 * (X c - X a))) ∧
    InL (mkA (2 * A) (2 * B + r) (2 * D)) (mkB (2 * A) (2 * B + r) (2 * D)) (mkD (2 * A) (2 * B + r) (2 * D)) ∧ ((-2000 ≤ A ∧ A ≤ 2000) ∧ (-400000 ≤ B ∧ B ≤ 400000) ∧ (0 < D ∧ D ≤ 200) ∧ -800000 ≤ r ∧ r ≤ 800000) := by
  have hac : X a ≠ X c := by omega
  obtain ⟨pA, pB, pD⟩ := th_bd (ok a ha) (ok c hc) hac
  have pr := (t3r_bd (ok a ha) (ok b hb) (ok c hc) hac).1
  have prr : t3r X Y a b c = r := by unfold t3r; rw [hr, hA, hB, hD]
  rw [prr] at pr
  have key : ∀ q, ∃ g : Int, 0 < g ∧ rs (X q) (Y q) A B D * g = dt X Y a q c ∧ D * g = X c - X a ∧ r * g = dt X Y a b c := fun q => by
    have hd : rwD (X a) (Y a) (X c) (Y c) ≠ 0 := by unfold rwD; omega
    refine ⟨gk (rwA (X a) (Y a) (X c) (Y c)) (rwB (X a) (Y a) (X c) (Y c)) (rwD (X a) (Y a) (X c) (Y c)), ?_, ?_, ?_, ?_⟩
    · have g0 := g3_pos (rwA (X a) (Y a) (X c) (Y c)) (rwB (X a) (Y a) (X c) (Y c)) hd
      unfold gk
      rw [if_neg (by unfold rwD; omega)]
      exact g0
    all_goals (
      have e1 := mkA_mul (rwA (X a) (Y a) (X c) (Y c)) (rwB (X a) (Y a) (X c) (Y c)) (rwD (X a) (Y a) (X c) (Y c))
      have e2 := mkB_mul (rwA (X a) (Y a) (X c) (Y c)) (rwB (X a) (Y a) (X c) (Y c)) (rwD (X a) (Y a) (X c) (Y c))
      have e3 := mkD_mul (rwA (X a) (Y a) (X c) (Y c)) (rwB (X a) (Y a) (X c) (Y c)) (rwD (X a) (Y a) (X c) (Y c))
      change thA (X a) (Y a) (X c) (Y c) * _ = _ at e1
      change thB (X a) (Y a) (X c) (Y c) * _ = _ at e2
      change thD (X a) (Y a) (X c) (Y c) * _ = _ at e3
      rw [← hA] at e1
      rw [← hB] at e2
      rw [← hD] at e3
      generalize gk (rwA (X a) (Y a) (X c) (Y c)) (rwB (X a) (Y a) (X c) (Y c)) (rwD (X a) (Y a) (X c) (Y c)) = g at *
      unfold rwA at e1
      unfold rwB at e2
      unfold rwD at e3
      first
        | exact e3
        | (try rw [hr]
           unfold rs dt
           first
             | (have : (Y q * D - A * X q - B) * g = Y q * (D * g) - (A * g) * X q - B * g := by grind
                rw [this, e1, e2, e3]; grind)
             | (have : (Y b * D - A * X b - B) * g = Y b * (D * g) - (A * g) * X b - B * g := by grind
                rw [this, e1, e2, e3]; grind)))
  rw [← hA] at pA
  rw [← hB] at pB
  rw [← hD] at pD
  have sh : ∀ q, rs (X q) (Y q) (2 * A) (2 * B + r) (2 * D) = 2 * rs (X q) (Y q) A B D - r := fun q => by unfold rs; grind
  have fit : ∀ q, q < n → ab (rs (X q) (Y q) (2 * A) (2 * B + r) (2 * D)) ≤ ab r := fun q hq => by
    obtain ⟨g, g0, e1, _, e3⟩ := key q
    refine div_le g0 ?_
    rw [← ab_pos g0, ← ab_pos g0, sh, e3]
    have : (2 * rs (X q) (Y q) A B D - r) * g = 2 * (rs (X q) (Y q) A B D * g) - r * g := by grind
    rw [this, e1, e3]
    exact strip2 ha hb hc h1 h2 T hq
  have ea : ab (rs (X a) (Y a) (2 * A) (2 * B + r) (2 * D)) = ab r := by
    obtain ⟨g, g0, e1, _, _⟩ := key a
    rw [(dt_at X Y a c).1] at e1
    have : rs (X a) (Y a) A B D = 0 := by
      rcases Int.mul_eq_zero.1 e1 with h | h
      · exact h
      · omega
    rw [sh, this]
    unfold ab; omega
  obtain ⟨w1, w2⟩ := made_width (n := n) (show 0 < 2 * D by omega) fit ⟨a, ha, ea⟩
  obtain ⟨q1, q2, q3⟩ := mk_abs (2 * A) (2 * B + r) (show 2 * D ≠ 0 by omega)
  have q4 := mkD_pos (2 * A) (2 * B + r) (show 2 * D ≠ 0 by omega)
  obtain ⟨g, g0, _, e2, e3⟩ := key a
  have re := red_eq (n := ab r) (d := 2 * D) (n' := ab (dt X Y a b c)) (d' := 2 * (X c - X a)) (by omega) (by omega) (by
    rw [← e3, ab_pos g0, ← e2]
    generalize ab r = p
    grind)
  exact ⟨⟨w1.trans re.1, w2.trans re.2⟩, by unfold InL; omega, pA, pB, pD, pr⟩
end Go.Proofs.Ytbhndfnfohoidaa
