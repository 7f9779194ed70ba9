/- The best line through two points costs no more than any line: the plain law. What holds for rotations about the points on a line holds for all moves; the best pair's line: the plain law. No line costs less than the best line through two points: the plain law. The least width, the least cost, and what any witness tells: the plain law. The first witness: none for two points, else one that tells the least width: the plain law. -/
import Derived.Test.YtbhndfnfohoidaaP6
import Derived.Test.YtbhndfnfohoidaaPA
import Derived.Test.YtbhndfnfohoidaaW23
import Derived.Test.YtbhndfnfohoidaaW11
import Derived.Test.YtbhndfnfohoidaaW27
namespace Go.Proofs.Ytbhndfnfohoidaa

def sm (f : Nat → Int) : Nat → Int
  | 0 => 0
  | k + 1 => sm f k + f k
theorem sm_le {f g : Nat → Int} : ∀ {n : Nat}, (∀ i, i < n → f i ≤ g i) → sm f n ≤ sm g n
  | 0, _ => Int.le_refl _
  | n + 1, h => by
    have := sm_le (n := n) (fun i hi => h i (by omega))
    have := h n (by omega)
    simp only [sm]; omega
theorem sm_congr {f g : Nat → Int} : ∀ {n : Nat}, (∀ i, i < n → f i = g i) → sm f n = sm g n
  | 0, _ => rfl
  | n + 1, h => by
    have e1 := sm_congr (n := n) (fun i hi => h i (by omega))
    have e2 := h n (by omega)
    simp only [sm]; rw [e1, e2]
theorem sm_lin (f g : Nat → Int) (a b : Int) : ∀ n, sm (fun i => a * f i + b * g i) n = a * sm f n + b * sm g n
  | 0 => by simp [sm]
  | n + 1 => by
    simp only [sm]
    rw [sm_lin f g a b n]
    grind
theorem sm_mul (f : Nat → Int) (a : Int) : ∀ n, sm (fun i => f i * a) n = sm f n * a
  | 0 => by simp [sm]
  | n + 1 => by
    simp only [sm]
    rw [sm_mul f a n]
    grind
theorem sumA_sm (X Y : Nat → Int) (A B D : Int) : ∀ n, sumA X Y A B D n = sm (fun i => ab (rs (X i) (Y i) A B D)) n
  | 0 => rfl
  | n + 1 => by rw [sumA, sumA_sm X Y A B D n]; rfl

/-- How the size of a rest changes at first when the line is moved. -/
def hh (r p : Int) : Int := if r = 0 then ab p else if 0 < r then -p else p
theorem hh_low {r p d : Int} : ab r * d + hh r p ≤ ab (d * r - p) := by
  unfold hh
  by_cases h0 : r = 0
  · rw [if_pos h0, h0, Int.mul_zero]
    have : ab (0 : Int) = 0 := rfl
    rw [this, Int.zero_mul]
    unfold ab; omega
  · rw [if_neg h0]
    rcases ab_cases r with ⟨k, e⟩ | ⟨k, e⟩
    · rw [if_pos (by omega), e, Int.mul_comm]
      unfold ab; omega
    · rw [if_neg (by omega), e, Int.neg_mul, Int.mul_comm]
      unfold ab; omega
theorem hh_eq {r p d o : Int} (ho : 0 ≤ o) (h1 : 0 < r → o * p ≤ d * r) (h2 : r < 0 → d * r ≤ o * p) : ab (d * r - o * p) = d * ab r + o * hh r p := by
  unfold hh
  by_cases h0 : r = 0
  · rw [if_pos h0, h0]
    have e1 : ab (d * 0 - o * p) = ab (o * p) := by rw [Int.mul_zero, Int.zero_sub, ab_neg]
    have e2 : ab (0 : Int) = 0 := rfl
    have e3 : ab o = o := by unfold ab; omega
    rw [e1, e2, ab_mul, e3]
    omega
  · rw [if_neg h0]
    rcases ab_cases r with ⟨k, e⟩ | ⟨k, e⟩
    · have := h1 (by omega)
      rw [if_pos (by omega), e]
      have : ab (d * r - o * p) = d * r - o * p := by unfold ab; omega
      rw [this, Int.mul_neg]
      omega
    · have := h2 (by omega)
      rw [if_neg (by omega), e]
      have : ab (d * r - o * p) = -(d * r - o * p) := by unfold ab; omega
      rw [this, Int.mul_neg]
      omega
theorem hh_add {r p q a b : Int} (ha : 0 ≤ a) (hb : 0 ≤ b) (h : r = 0 → (0 ≤ p ∧ 0 ≤ q) ∨ (p ≤ 0 ∧ q ≤ 0)) : hh r (a * p + b * q) = a * hh r p + b * hh r q := by
  unfold hh
  by_cases h0 : r = 0
  · rw [if_pos h0, if_pos h0, if_pos h0]
    rcases h h0 with ⟨k1, k2⟩ | ⟨k1, k2⟩
    · have := Int.mul_nonneg ha k1
      have := Int.mul_nonneg hb k2
      have e1 : ab p = p := by unfold ab; omega
      have e2 : ab q = q := by unfold ab; omega
      rw [e1, e2]
      unfold ab; omega
    · have m1 := Int.mul_nonneg ha (show 0 ≤ -p by omega)
      have m2 := Int.mul_nonneg hb (show 0 ≤ -q by omega)
      rw [Int.mul_neg] at m1 m2
      have e1 : ab p = -p := by unfold ab; omega
      have e2 : ab q = -q := by unfold ab; omega
      rw [e1, e2, Int.mul_neg, Int.mul_neg]
      unfold ab; omega
  · rw [if_neg h0, if_neg h0, if_neg h0]
    split <;> grind

/-- The least of fractions. -/
theorem least_frac (P : Nat → Prop) [DecidablePred P] (a b : Nat → Int) (hb : ∀ i, P i → 0 < b i) : ∀ n, (∃ i, i < n ∧ P i) → ∃ i, i < n ∧ P i ∧ ∀ k, k < n → P k → a i * b k ≤ a k * b i := by
  intro n
  induction n with
  | zero => rintro ⟨i, hi, _⟩; omega
  | succ n ih =>
    rintro ⟨i, hi, hp⟩
    by_cases h : ∃ i, i < n ∧ P i
    · obtain ⟨j, hj, pj, hm⟩ := ih h
      by_cases pn : P n
      · by_cases hlt : a n * b j < a j * b n
        · refine ⟨n, by omega, pn, fun k hk pk => ?_⟩
          by_cases e : k = n
          · subst e; exact Int.le_refl _
          · exact frac_trans (hb j pj) (Int.le_of_lt hlt) (hm k (by omega) pk) (hb n pn) (hb k pk)
        · refine ⟨j, by omega, pj, fun k hk pk => ?_⟩
          by_cases e : k = n
          · subst e; omega
          · exact hm k (by omega) pk
      · refine ⟨j, by omega, pj, fun k hk pk => ?_⟩
        by_cases e : k = n
        · subst e; exact absurd pk pn
        · exact hm k (by omega) pk
    · have e : i = n := by
        rcases Nat.lt_or_ge i n with k | k
        · exact absurd ⟨i, k, hp⟩ h
        · omega
      subst e
      refine ⟨i, by omega, hp, fun k hk pk => ?_⟩
      by_cases e : k = i
      · subst e; exact Int.le_refl _
      · exact absurd ⟨k, by omega, pk⟩ h

/-- The sum of the first changes. -/
def HS (n : Nat) (r p : Nat → Int) : Int := sm (fun i => hh (r i) (p i)) n
theorem HS_add {n : Nat} {r p q s : Nat → Int} {a b c : Int} (hc : 0 < c) (ha : 0 ≤ a) (hb : 0 ≤ b) (h1 : ∀ i, i < n → c * s i = a * p i + b * q i) (h2 : ∀ i, i < n → r i = 0 → (0 ≤ p i ∧ 0 ≤ q i) ∨ (p i ≤ 0 ∧ q i ≤ 0)) (hp : 0 ≤ HS n r p) (hq : 0 ≤ HS n r q) : 0 ≤ HS n r s := by
  have e : c * HS n r s = a * HS n r p + b * HS n r q := by
    unfold HS
    rw [← sm_lin]
    have : c * sm (fun i => hh (r i) (s i)) n = sm (fun i => c * hh (r i) (s i) + 0 * 0) n := by
      have := sm_lin (fun i => hh (r i) (s i)) (fun _ => 0) c 0 n
      rw [this]; omega
    rw [this]
    refine sm_congr fun i hi => ?_
    rw [← hh_add ha hb (h2 i hi), ← h1 i hi]
    have := hh_add (r := r i) (p := s i) (q := 0) (a := c) (b := 0) (by omega) (Int.le_refl _) (fun _ => by omega)
    rw [Int.zero_mul, Int.add_zero, Int.zero_mul, Int.add_zero] at this
    rw [this]
    omega
  have m1 := Int.mul_nonneg ha hp
  have m2 := Int.mul_nonneg hb hq
  exact Int.not_lt.1 fun h => by
    have := Int.mul_pos hc (show 0 < -HS n r s by omega)
    rw [Int.mul_neg] at this
    omega
end Go.Proofs.Ytbhndfnfohoidaa

namespace Go.Proofs.Ytbhndfnfohoidaa

theorem hs_const {n : Nat} {X r : Nat → Int} (ray : ∀ j, j < n → r j = 0 → ∀ s, (s = 1 ∨ s = -1) → 0 ≤ HS n r (fun i => s * (X i - X j))) {m M : Nat} (hm : m < n) (hM : M < n) (rm : r m = 0) (rM : r M = 0) (hlt : X m < X M)
    (lo : ∀ i, i < n → r i = 0 → X m ≤ X i) (hi : ∀ i, i < n → r i = 0 → X i ≤ X M) (u : Int) : 0 ≤ HS n r (fun _ => u) := by
  rcases Int.lt_or_le u 0 with h | h
  · refine HS_add (c := X M - X m) (a := -u) (b := -u) (by omega) (by omega) (by omega) (fun i _ => ?_) (fun i hi' r0 => ?_) (ray m hm rm (-1) (.inr rfl)) (ray M hM rM 1 (.inl rfl))
    · grind
    · have := lo i hi' r0
      have := hi i hi' r0
      right; omega
  · refine HS_add (c := X M - X m) (a := u) (b := u) (by omega) (by omega) (by omega) (fun i _ => ?_) (fun i hi' r0 => ?_) (ray m hm rm 1 (.inl rfl)) (ray M hM rM (-1) (.inr rfl))
    · grind
    · have := lo i hi' r0
      have := hi i hi' r0
      left; omega

theorem hs_pos {n : Nat} {X r : Nat → Int} (ray : ∀ j, j < n → r j = 0 → ∀ s, (s = 1 ∨ s = -1) → 0 ≤ HS n r (fun i => s * (X i - X j))) {i0 k0 : Nat} (hi0 : i0 < n) (hk0 : k0 < n) (r0 : r i0 = 0) (rk : r k0 = 0) (hne : X i0 ≠ X k0) {u v : Int} (hv : 0 ≤ v) : 0 ≤ HS n r (fun i => u + v * X i) := by
  obtain ⟨m, hm, rm, lo'⟩ := least_frac (fun i => r i = 0) X (fun _ => 1) (fun _ _ => by omega) n ⟨i0, hi0, r0⟩
  obtain ⟨M, hM, rM, hi'⟩ := least_frac (fun i => r i = 0) (fun i => -X i) (fun _ => 1) (fun _ _ => by omega) n ⟨i0, hi0, r0⟩
  have lo : ∀ i, i < n → r i = 0 → X m ≤ X i := fun i h1 h2 => by have := lo' i h1 h2; omega
  have hi : ∀ i, i < n → r i = 0 → X i ≤ X M := fun i h1 h2 => by have := hi' i h1 h2; omega
  have hlt : X m < X M := by
    have a1 := lo i0 hi0 r0
    have a2 := lo k0 hk0 rk
    have a3 := hi i0 hi0 r0
    have a4 := hi k0 hk0 rk
    omega
  have cst := hs_const ray hm hM rm rM hlt lo hi
  by_cases h1 : ∃ i, i < n ∧ (r i = 0 ∧ u + v * X i ≤ 0)
  · by_cases h2 : ∃ i, i < n ∧ (r i = 0 ∧ 0 < u + v * X i)
    · obtain ⟨a, ha, ⟨ra, pa⟩, ma⟩ := least_frac (fun i => r i = 0 ∧ u + v * X i ≤ 0) (fun i => -X i) (fun _ => 1) (fun _ _ => by omega) n h1
      obtain ⟨b, hb, ⟨rb, pb⟩, mb⟩ := least_frac (fun i => r i = 0 ∧ 0 < u + v * X i) X (fun _ => 1) (fun _ _ => by omega) n h2
      have hab : X a < X b := by
        refine Int.not_le.1 fun h => ?_
        have := Int.mul_le_mul_of_nonneg_left h hv
        omega
      refine HS_add (c := X b - X a) (a := u + v * X b) (b := -(u + v * X a)) (by omega) (by omega) (by omega) (fun i _ => ?_) (fun i hin ri => ?_) (ray a ha ra 1 (.inl rfl)) (ray b hb rb 1 (.inl rfl))
      · grind
      · rcases Int.lt_or_le 0 (u + v * X i) with k | k
        · have := mb i hin ⟨ri, k⟩
          left; omega
        · have := ma i hin ⟨ri, k⟩
          right; omega
    · have all : ∀ i, i < n → r i = 0 → u + v * X i ≤ 0 := fun i hin ri => Int.not_lt.1 (fun k => h2 ⟨i, hin, ri, k⟩)
      have aM := all M hM rM
      refine HS_add (c := 1) (a := v) (b := 1) (by omega) hv (by omega) (fun i _ => ?_) (fun i hin ri => ?_) (ray M hM rM 1 (.inl rfl)) (cst (u + v * X M))
      · grind
      · have := hi i hin ri
        right; omega
  · have all : ∀ i, i < n → r i = 0 → 0 < u + v * X i := fun i hin ri => Int.not_le.1 (fun k => h1 ⟨i, hin, ri, k⟩)
    have am := all m hm rm
    refine HS_add (c := 1) (a := v) (b := 1) (by omega) hv (by omega) (fun i _ => ?_) (fun i hin ri => ?_) (ray m hm rm 1 (.inl rfl)) (cst (u + v * X m))
    · grind
    · have := lo i hin ri
      left; omega
theorem hs_all {n : Nat} {X r : Nat → Int} (ray : ∀ j, j < n → r j = 0 → ∀ s, (s = 1 ∨ s = -1) → 0 ≤ HS n r (fun i => s * (X i - X j))) {i0 k0 : Nat} (hi0 : i0 < n) (hk0 : k0 < n) (r0 : r i0 = 0) (rk : r k0 = 0) (hne : X i0 ≠ X k0) (u v : Int) : 0 ≤ HS n r (fun i => u + v * X i) := by
  rcases Int.lt_or_le v 0 with h | h
  · have := hs_pos (X := fun i => -X i) (r := r) (fun j hj rj s hs => by
      have := ray j hj rj (-s) (by omega)
      have e : (fun i => -s * (X i - X j)) = fun i => s * (-X i - -X j) := by funext i; grind
      rw [e] at this; exact this) hi0 hk0 r0 rk (by omega) (u := u) (v := -v) (by omega)
    have e : (fun i => u + -v * -X i) = fun i => u + v * X i := by funext i; grind
    rw [e] at this
    exact this
  · exact hs_pos ray hi0 hk0 r0 rk hne h

/-- The best pair costs least of all pairs. -/
theorem bst_min {n : Nat} {X Y : Nat → Int} (hn : n ≤ 12) (ok : ∀ i, i < n → InP (X i) (Y i)) : ∀ (l : List (Nat × Nat)) (s : Option (Nat × Nat)) (b : Nat × Nat), (∀ q ∈ l, IsPr n X q) → (∀ q, s = some q → IsPr n X q) → l.foldl (pstep n X Y) s = some b →
    (∀ q ∈ l, pN n X Y b * pE n X Y q ≤ pN n X Y q * pE n X Y b) ∧ ∀ q, s = some q → pN n X Y b * pE n X Y q ≤ pN n X Y q * pE n X Y b := by
  intro l
  induction l with
  | nil => intro s b _ _ h; exact ⟨fun q hq => by (cases hq), fun q hq => by rw [List.foldl_nil] at h; rw [h] at hq; cases hq; exact Int.le_refl _⟩
  | cons p l ih =>
    intro s b hl hs h
    rw [List.foldl_cons] at h
    have hp := hl p (List.mem_cons_self ..)
    obtain ⟨t, et, ht⟩ := pstep_some n X Y s p
    have pt : IsPr n X t := by
      rcases ht with rfl | ht
      · exact hp
      · exact hs t ht
    obtain ⟨k1, k2⟩ := ih (pstep n X Y s p) b (fun q hq => hl q (List.mem_cons_of_mem _ hq)) (fun q hq => by rw [et] at hq; cases hq; exact pt) h
    have kt := k2 t et
    have dt := (pr_bd hn ok pt).2.1
    have pb : IsPr n X b := by
      rcases fold_mem n X Y l (pstep n X Y s p) b h with hb | hb
      · exact hl b (List.mem_cons_of_mem _ hb)
      · rw [et] at hb; cases hb; exact pt
    have db := (pr_bd hn ok pb).2.1
    have dp := (pr_bd hn ok hp).2.1
    have step : pN n X Y t * pE n X Y p ≤ pN n X Y p * pE n X Y t ∧ ∀ q, s = some q → pN n X Y t * pE n X Y q ≤ pN n X Y q * pE n X Y t := by
      cases s with
      | none => simp only [pstep] at et; cases et; exact ⟨Int.le_refl _, fun q hq => by cases hq⟩
      | some q0 =>
        simp only [pstep] at et
        split at et
        · rename_i hlt
          cases et
          exact ⟨Int.le_refl _, fun q hq => by cases hq; exact Int.le_of_lt hlt⟩
        · rename_i hlt
          cases et
          exact ⟨Int.not_lt.1 hlt, fun q hq => by cases hq; exact Int.le_refl _⟩
    refine ⟨fun q hq => ?_, fun q hq => frac_trans dt kt (step.2 q hq) db (pr_bd hn ok (hs q hq)).2.1⟩
    rcases List.mem_cons.1 hq with rfl | hq
    · exact frac_trans dt kt step.1 db dp
    · exact k1 q hq
end Go.Proofs.Ytbhndfnfohoidaa

namespace Go.Proofs.Ytbhndfnfohoidaa

theorem th_rs {X Y : Nat → Int} {p q : Nat} (h : X p ≠ X q) : ∃ g : Int, g ≠ 0 ∧ (∀ i, rs (X i) (Y i) (thA (X p) (Y p) (X q) (Y q)) (thB (X p) (Y p) (X q) (Y q)) (thD (X p) (Y p) (X q) (Y q)) * g = dt X Y p i q) ∧ thD (X p) (Y p) (X q) (Y q) * g = X q - X p := by
  have hd : rwD (X p) (Y p) (X q) (Y q) ≠ 0 := by unfold rwD; omega
  refine ⟨gk (rwA (X p) (Y p) (X q) (Y q)) (rwB (X p) (Y p) (X q) (Y q)) (rwD (X p) (Y p) (X q) (Y q)), gk_ne _ _ hd, fun i => ?_, mkD_mul _ _ _⟩
  have e1 := mkA_mul (rwA (X p) (Y p) (X q) (Y q)) (rwB (X p) (Y p) (X q) (Y q)) (rwD (X p) (Y p) (X q) (Y q))
  have e2 := mkB_mul (rwA (X p) (Y p) (X q) (Y q)) (rwB (X p) (Y p) (X q) (Y q)) (rwD (X p) (Y p) (X q) (Y q))
  have e3 := mkD_mul (rwA (X p) (Y p) (X q) (Y q)) (rwB (X p) (Y p) (X q) (Y q)) (rwD (X p) (Y p) (X q) (Y q))
  unfold rs thA thB thD dt
  generalize mkA (rwA (X p) (Y p) (X q) (Y q)) (rwB (X p) (Y p) (X q) (Y q)) (rwD (X p) (Y p) (X q) (Y q)) = A at *
  generalize mkB (rwA (X p) (Y p) (X q) (Y q)) (rwB (X p) (Y p) (X q) (Y q)) (rwD (X p) (Y p) (X q) (Y q)) = B at *
  generalize mkD (rwA (X p) (Y p) (X q) (Y q)) (rwB (X p) (Y p) (X q) (Y q)) (rwD (X p) (Y p) (X q) (Y q)) = D at *
  generalize gk (rwA (X p) (Y p) (X q) (Y q)) (rwB (X p) (Y p) (X q) (Y q)) (rwD (X p) (Y p) (X q) (Y q)) = g at *
  unfold rwA at e1
  unfold rwB at e2
  unfold rwD at e3
  have : (Y i * D - A * X i - B) * g = Y i * (D * g) - (A * g) * X i - B * g := by grind
  rw [this, e1, e2, e3]
  grind
theorem dt_rest (X Y : Nat → Int) (A B D : Int) (p i q : Nat) : D * dt X Y p i q = rs (X i) (Y i) A B D * (X q - X p) - rs (X p) (Y p) A B D * (X q - X i) - rs (X q) (Y q) A B D * (X i - X p) := by unfold dt rs; grind
theorem on_own {X Y : Nat → Int} {p q : Nat} (h : X p ≠ X q) : rs (X p) (Y p) (thA (X p) (Y p) (X q) (Y q)) (thB (X p) (Y p) (X q) (Y q)) (thD (X p) (Y p) (X q) (Y q)) = 0 ∧ rs (X q) (Y q) (thA (X p) (Y p) (X q) (Y q)) (thB (X p) (Y p) (X q) (Y q)) (thD (X p) (Y p) (X q) (Y q)) = 0 := by
  obtain ⟨g, g0, e, _⟩ := th_rs (Y := Y) h
  have e1 := e p
  have e2 := e q
  have z1 : dt X Y p p q = 0 := (dt_at X Y p q).1
  have z2 : dt X Y p q q = 0 := (dt_at X Y p q).2
  rw [z1] at e1
  rw [z2] at e2
  exact ⟨(Int.mul_eq_zero.1 e1).resolve_right g0, (Int.mul_eq_zero.1 e2).resolve_right g0⟩

/-- The best pair costs no more than any two points' line, whichever comes first. -/
theorem best_two {n : Nat} {X Y : Nat → Int} (V : VP n X Y) {b : Nat × Nat} (hb : bst n X Y (prs X n) = some b) {j t : Nat} (hj : j < n) (ht : t < n) (hx : X j ≠ X t) :
    pS n X Y b * thD (X j) (Y j) (X t) (Y t) ≤ sumA X Y (thA (X j) (Y j) (X t) (Y t)) (thB (X j) (Y j) (X t) (Y t)) (thD (X j) (Y j) (X t) (Y t)) n * pD X Y b := by
  have hpr := prs_pr (X := X) (Nat.le_refl n)
  have pb := hpr b (bst_mem hb)
  have db := (pr_in V.ok pb).2.1
  have mn := (bst_min V.few V.ok (prs X n) none b hpr (fun q h => by cases h) hb).1
  have key : ∀ q, q ∈ prs X n → pS n X Y b * pD X Y q ≤ pS n X Y q * pD X Y b := fun q hq => (red_le db (pr_in V.ok (hpr q hq)).2.1).1 (mn q hq)
  rcases Nat.lt_trichotomy j t with h | h | h
  · exact key (j, t) (mem_prs h hx ht)
  · subst h; exact absurd rfl hx
  · have k := key (t, j) (mem_prs h (Ne.symm hx) hj)
    have sw := th_swap (y1 := Y j) (y2 := Y t) hx
    unfold pS pA pB pD at k ⊢
    simp only at k
    rw [sw.1, sw.2.1, sw.2.2] at k
    exact k

theorem ab_sg {x y : Int} (h : x = y ∨ x = -y) : ab x = ab y := by rcases h with h | h <;> rw [h] <;> (try rw [ab_neg])

theorem ray_ok {n : Nat} {X Y : Nat → Int} (V : VP n X Y) {b : Nat × Nat} (hb : bst n X Y (prs X n) = some b) {j : Nat} (hj : j < n) (rj : rs (X j) (Y j) (pA X Y b) (pB X Y b) (pD X Y b) = 0) {s : Int} (hs : s = 1 ∨ s = -1) :
    0 ≤ HS n (fun i => rs (X i) (Y i) (pA X Y b) (pB X Y b) (pD X Y b)) (fun i => s * (X i - X j)) := by
  have pb := prs_pr (X := X) (Nat.le_refl n) b (bst_mem hb)
  have db := (pr_in V.ok pb).2.1
  obtain ⟨r, hr⟩ : ∃ r : Nat → Int, (fun i => rs (X i) (Y i) (pA X Y b) (pB X Y b) (pD X Y b)) = r := ⟨_, rfl⟩
  have hri : ∀ i, rs (X i) (Y i) (pA X Y b) (pB X Y b) (pD X Y b) = r i := fun i => congrFun hr i
  rw [hr]
  rw [hri] at rj
  by_cases hp : ∃ i, i < n ∧ (0 < r i * (s * (X i - X j)))
  · obtain ⟨t, ht, pt, mt⟩ := least_frac (fun i => 0 < r i * (s * (X i - X j))) (fun i => ab (r i)) (fun i => ab (s * (X i - X j))) (fun i hi => by
      refine Int.not_le.1 fun h => ?_
      have := ab_nonneg (s * (X i - X j))
      have z : s * (X i - X j) = 0 := by unfold ab at h; omega
      rw [z, Int.mul_zero] at hi
      omega) n hp
    have hx : X j ≠ X t := fun e => by rw [e, Int.sub_self, Int.mul_zero, Int.mul_zero] at pt; omega
    obtain ⟨g, g0, eg, ed⟩ := th_rs (Y := Y) hx
    have op := best_two V hb hj ht hx
    have dl := (th_bd (V.ok j hj) (V.ok t ht) hx).2.2.1
    unfold pS at op
    rw [sumA_sm, sumA_sm] at op
    generalize thA (X j) (Y j) (X t) (Y t) = A' at *
    generalize thB (X j) (Y j) (X t) (Y t) = B' at *
    generalize thD (X j) (Y j) (X t) (Y t) = D' at *
    have ag : 0 < ab g := by unfold ab; omega
    -- the far line's rests
    have e1 : D' * ab g = ab (s * (X t - X j)) := by
      have : ab (D' * g) = D' * ab g := by rw [ab_mul]; congr 1; unfold ab; omega
      rw [← this, ed]
      exact ab_sg (by rcases hs with rfl | rfl <;> omega)
    have sgn : (0 < r t ∧ 0 < s * (X t - X j)) ∨ (r t < 0 ∧ s * (X t - X j) < 0) := by
      rcases Int.lt_trichotomy (r t) 0 with h | h | h
      · right
        refine ⟨h, Int.not_le.1 fun k => ?_⟩
        have := Int.mul_nonneg (show 0 ≤ -r t by omega) k
        rw [Int.neg_mul] at this
        omega
      · rw [h, Int.zero_mul] at pt; omega
      · left
        refine ⟨h, Int.not_le.1 fun k => ?_⟩
        have := Int.mul_nonneg (show 0 ≤ r t by omega) (show 0 ≤ -(s * (X t - X j)) by omega)
        rw [Int.mul_neg] at this
        omega
    have e2 : ∀ i, ab (rs (X i) (Y i) A' B' D') * (pD X Y b * ab g) = ab (ab (s * (X t - X j)) * r i - ab (r t) * (s * (X i - X j))) := fun i => by
      have h1 := dt_rest X Y (pA X Y b) (pB X Y b) (pD X Y b) j i t
      rw [hri, hri, hri, rj, Int.zero_mul, Int.sub_zero] at h1
      have h2 : ab (rs (X i) (Y i) A' B' D') * (pD X Y b * ab g) = ab (pD X Y b * (rs (X i) (Y i) A' B' D' * g)) := by
        rw [ab_mul, ab_mul]
        have : ab (pD X Y b) = pD X Y b := by unfold ab; omega
        rw [this]
        generalize ab (rs (X i) (Y i) A' B' D') = x
        generalize ab g = y
        generalize pD X Y b = z
        grind
      rw [h2, eg i, h1]
      refine ab_sg ?_
      rcases sgn with ⟨k1, k2⟩ | ⟨k1, k2⟩
      · have a1 : ab (s * (X t - X j)) = s * (X t - X j) := by unfold ab; omega
        have a2 : ab (r t) = r t := by unfold ab; omega
        rw [a1, a2]
        rcases hs with rfl | rfl
        · left; grind
        · right; grind
      · have a1 : ab (s * (X t - X j)) = -(s * (X t - X j)) := by unfold ab; omega
        have a2 : ab (r t) = -(r t) := by unfold ab; omega
        rw [a1, a2]
        rcases hs with rfl | rfl
        · right; grind
        · left; grind
    have e3 : sm (fun i => ab (r i)) n * ab (s * (X t - X j)) ≤ sm (fun i => ab (ab (s * (X t - X j)) * r i - ab (r t) * (s * (X i - X j)))) n := by
      have h1 : sm (fun i => ab (rs (X i) (Y i) A' B' D')) n * (pD X Y b * ab g) = sm (fun i => ab (ab (s * (X t - X j)) * r i - ab (r t) * (s * (X i - X j)))) n := by
        rw [← sm_mul]
        exact sm_congr fun i _ => e2 i
      have h2 : sm (fun i => ab (r i)) n = sm (fun i => ab (rs (X i) (Y i) (pA X Y b) (pB X Y b) (pD X Y b))) n := sm_congr fun i _ => by rw [hri]
      rw [← h1, h2, ← e1]
      have h3 := Int.mul_le_mul_of_nonneg_right op (show 0 ≤ ab g by omega)
      rw [Int.mul_assoc, Int.mul_assoc] at h3
      exact h3
    have e4 : sm (fun i => ab (ab (s * (X t - X j)) * r i - ab (r t) * (s * (X i - X j)))) n = ab (s * (X t - X j)) * sm (fun i => ab (r i)) n + ab (r t) * HS n r (fun i => s * (X i - X j)) := by
      unfold HS
      rw [← sm_lin]
      refine sm_congr fun i hi => hh_eq (ab_nonneg _) (fun h => ?_) (fun h => ?_)
      · rcases Int.lt_or_le 0 (s * (X i - X j)) with k | k
        · have := mt i hi (Int.mul_pos h k)
          have a1 : ab (s * (X i - X j)) = s * (X i - X j) := by unfold ab; omega
          have a2 : ab (r i) = r i := by unfold ab; omega
          rw [a1, a2, Int.mul_comm (r i)] at this
          exact this
        · have m1 := Int.mul_nonneg (ab_nonneg (r t)) (show 0 ≤ -(s * (X i - X j)) by omega)
          have m2 := Int.mul_nonneg (ab_nonneg (s * (X t - X j))) (show 0 ≤ r i by omega)
          rw [Int.mul_neg] at m1
          omega
      · rcases Int.lt_or_le (s * (X i - X j)) 0 with k | k
        · have pp : 0 < r i * (s * (X i - X j)) := by
            have := Int.mul_pos (show 0 < -r i by omega) (show 0 < -(s * (X i - X j)) by omega)
            rw [Int.neg_mul_neg] at this
            exact this
          have := mt i hi pp
          have a1 : ab (s * (X i - X j)) = -(s * (X i - X j)) := by unfold ab; omega
          have a2 : ab (r i) = -(r i) := by unfold ab; omega
          rw [a1, a2, Int.mul_neg, Int.neg_mul, Int.mul_comm (r i)] at this
          omega
        · have m1 := Int.mul_nonneg (ab_nonneg (r t)) k
          have m2 := Int.mul_nonneg (ab_nonneg (s * (X t - X j))) (show 0 ≤ -r i by omega)
          rw [Int.mul_neg] at m2
          omega
    rw [e4, Int.mul_comm] at e3
    have rt : 0 < ab (r t) := by unfold ab; omega
    refine Int.not_lt.1 fun h => ?_
    have := Int.mul_pos rt (show 0 < -HS n r (fun i => s * (X i - X j)) by omega)
    rw [Int.mul_neg] at this
    omega
  · have z : sm (fun _ => (0 : Int)) n = 0 := by
      have := sm_mul (fun _ => 0) 0 n
      simpa using this
    unfold HS
    rw [← z]
    refine sm_le fun i hi => ?_
    have np : ¬ 0 < r i * (s * (X i - X j)) := fun h => hp ⟨i, hi, h⟩
    unfold hh
    split
    · exact ab_nonneg _
    · rename_i h0
      split
      · rename_i h1
        show (0 : Int) ≤ -(s * (X i - X j))
        refine Int.not_lt.1 fun k => np (Int.mul_pos h1 (by omega))
      · rename_i h1
        show (0 : Int) ≤ s * (X i - X j)
        refine Int.not_lt.1 fun k => np ?_
        have := Int.mul_pos (show 0 < -r i by omega) (show 0 < -(s * (X i - X j)) by omega)
        rw [Int.neg_mul_neg] at this
        exact this

/-- No line costs less. -/
theorem best_all {n : Nat} {X Y : Nat → Int} (V : VP n X Y) {b : Nat × Nat} (hb : bst n X Y (prs X n) = some b) (A B D : Int) : pS n X Y b * D ≤ sumA X Y A B D n * pD X Y b := by
  have pb := prs_pr (X := X) (Nat.le_refl n) b (bst_mem hb)
  have db := (pr_in V.ok pb).2.1
  have own := on_own (Y := Y) pb.2.2
  have all := hs_all (X := X) (r := fun i => rs (X i) (Y i) (pA X Y b) (pB X Y b) (pD X Y b)) (fun j hj rj s hs => ray_ok V hb hj rj hs) (i0 := b.1) (k0 := b.2) (by have := pb.1; have := pb.2.1; omega) pb.2.1 own.1 own.2 pb.2.2 (B * pD X Y b - pB X Y b * D) (A * pD X Y b - pA X Y b * D)
  unfold pS
  rw [sumA_sm, sumA_sm, ← sm_mul, ← sm_mul]
  have e : ∀ i, ab (rs (X i) (Y i) A B D) * pD X Y b = ab (D * rs (X i) (Y i) (pA X Y b) (pB X Y b) (pD X Y b) - ((B * pD X Y b - pB X Y b * D) + (A * pD X Y b - pA X Y b * D) * X i)) := fun i => by
    rw [← ab_pos db]
    congr 1
    unfold rs
    generalize pA X Y b = p
    generalize pB X Y b = q
    generalize pD X Y b = r
    grind
  have low := sm_le (n := n) (f := fun i => ab (rs (X i) (Y i) (pA X Y b) (pB X Y b) (pD X Y b)) * D + hh (rs (X i) (Y i) (pA X Y b) (pB X Y b) (pD X Y b)) ((B * pD X Y b - pB X Y b * D) + (A * pD X Y b - pA X Y b * D) * X i)) (g := fun i => ab (rs (X i) (Y i) A B D) * pD X Y b) (fun i _ => by rw [e i]; exact hh_low)
  have sp := sm_lin (fun i => ab (rs (X i) (Y i) (pA X Y b) (pB X Y b) (pD X Y b)) * D) (fun i => hh (rs (X i) (Y i) (pA X Y b) (pB X Y b) (pD X Y b)) ((B * pD X Y b - pB X Y b * D) + (A * pD X Y b - pA X Y b * D) * X i)) 1 1 n
  simp only [Int.one_mul] at sp
  rw [sp] at low
  have all' : 0 ≤ sm (fun i => hh (rs (X i) (Y i) (pA X Y b) (pB X Y b) (pD X Y b)) ((B * pD X Y b - pB X Y b * D) + (A * pD X Y b - pA X Y b * D) * X i)) n := all
  omega
end Go.Proofs.Ytbhndfnfohoidaa

namespace Go.Proofs.Ytbhndfnfohoidaa

theorem max_le_sum {X Y : Nat → Int} {A B D : Int} : ∀ n, 0 ≤ sumA X Y A B D n ∧ 0 ≤ maxA X Y A B D n ∧ maxA X Y A B D n ≤ sumA X Y A B D n ∧ sumA X Y A B D n ≤ n * maxA X Y A B D n
  | 0 => by simp [sumA, maxA]
  | n + 1 => by
    obtain ⟨h1, h2, h3, h4⟩ := max_le_sum (X := X) (Y := Y) (A := A) (B := B) (D := D) n
    have := ab_nonneg (rs (X n) (Y n) A B D)
    have m : (n : Int) * maxA X Y A B D n ≤ n * maxA X Y A B D (n + 1) := Int.mul_le_mul_of_nonneg_left (by rw [maxA]; omega) (by omega)
    have e : ((n + 1 : Nat) : Int) * maxA X Y A B D (n + 1) = n * maxA X Y A B D (n + 1) + maxA X Y A B D (n + 1) := by push_cast; grind
    rw [e]
    have k : maxA X Y A B D (n + 1) = max (maxA X Y A B D n) (ab (rs (X n) (Y n) A B D)) := rfl
    have k2 : sumA X Y A B D (n + 1) = sumA X Y A B D n + ab (rs (X n) (Y n) A B D) := rfl
    omega

/-- What the first witness tells, as a fraction that bounds what all tell and what all lines are wide. -/
theorem told_any {n : Nat} {X Y : Nat → Int} (V : VP n X Y) : ∃ v e, 0 ≤ v ∧ 0 < e ∧ (witS X Y (wits n X)).N = rN v e ∧ (witS X Y (wits n X)).D = rD v e ∧ Top n X Y v e ∧ (∀ A B D, 0 < D → v * D ≤ maxA X Y A B D n * e) ∧ e ≤ 400 := by
  rcases wit_cases V with ⟨_, hn, e1, e2⟩ | ⟨a, b, _, ⟨ha, hb, _, hx⟩, e1, e2, T⟩ | ⟨a, b, c, _, ⟨ha, hb, hc, h1, h2⟩, e1, e2, T⟩
  · obtain ⟨rfl, hx⟩ := wits_nil V hn
    refine ⟨0, 1, by omega, by omega, by rw [e1]; decide, by rw [e2]; decide, ⟨fun i k hi hk h => ?_, fun i j k hi hj hk k1 k2 => ?_⟩, fun A B D _ => ?_, by omega⟩
    · have : i = k := by
        rcases Nat.lt_trichotomy i k with l | l | l
        · obtain rfl : i = 0 := by omega
          obtain rfl : k = 1 := by omega
          exact absurd h hx
        · exact l
        · obtain rfl : k = 0 := by omega
          obtain rfl : i = 1 := by omega
          exact absurd h.symm hx
      subst this
      have : ab (Y i - Y i) = 0 := by unfold ab; omega
      rw [this]; omega
    · have : i ≠ j := fun e => by subst e; omega
      have : j ≠ k := fun e => by subst e; omega
      have : i ≠ k := fun e => by subst e; omega
      omega
    · have := (max_le_sum (X := X) (Y := Y) (A := A) (B := B) (D := D) 2).2.1
      omega
  · refine ⟨_, _, ab_nonneg _, by omega, e1, e2, T, fun A B D hD => ?_, by omega⟩
    have m1 := maxA_le (X := X) (Y := Y) (A := A) (B := B) (D := D) ha
    have m2 := maxA_le (X := X) (Y := Y) (A := A) (B := B) (D := D) hb
    rw [← ab_pos hD]
    have e : (Y a - Y b) * D = rs (X a) (Y a) A B D - rs (X b) (Y b) A B D := by unfold rs; rw [hx]; grind
    rw [e]
    unfold ab at *
    omega
  · have hac : 0 < X c - X a := by omega
    refine ⟨_, _, ab_nonneg _, by omega, e1, e2, T, fun A B D hD => ?_, by have := (V.ok a ha).1; have := (V.ok c hc).1; omega⟩
    have m1 := maxA_le (X := X) (Y := Y) (A := A) (B := B) (D := D) ha
    have m2 := maxA_le (X := X) (Y := Y) (A := A) (B := B) (D := D) hb
    have m3 := maxA_le (X := X) (Y := Y) (A := A) (B := B) (D := D) hc
    rw [← ab_pos hD, Int.mul_comm, dt_rest X Y A B D]
    generalize rs (X a) (Y a) A B D = p at *
    generalize rs (X b) (Y b) A B D = q at *
    generalize rs (X c) (Y c) A B D = r at *
    generalize maxA X Y A B D n = M at *
    rw [ab_le] at *
    have k1 : q * (X c - X a) ≤ M * (X c - X a) := Int.mul_le_mul_of_nonneg_right m2.2 (by omega)
    have k2 : -M * (X c - X a) ≤ q * (X c - X a) := Int.mul_le_mul_of_nonneg_right m2.1 (by omega)
    have k3 : p * (X c - X b) ≤ M * (X c - X b) := Int.mul_le_mul_of_nonneg_right m1.2 (by omega)
    have k4 : -M * (X c - X b) ≤ p * (X c - X b) := Int.mul_le_mul_of_nonneg_right m1.1 (by omega)
    have k5 : r * (X b - X a) ≤ M * (X b - X a) := Int.mul_le_mul_of_nonneg_right m3.2 (by omega)
    have k6 : -M * (X b - X a) ≤ r * (X b - X a) := Int.mul_le_mul_of_nonneg_right m3.1 (by omega)
    rw [Int.neg_mul] at k2 k4 k6
    have e : M * (2 * (X c - X a)) = M * (X c - X a) + (M * (X c - X b) + M * (X b - X a)) := by grind
    omega

/-- No line that is valid is narrower. -/
theorem narrow_any {n : Nat} {X Y : Nat → Int} (V : VP n X Y) {A B D : Int} (hD : 0 < D) : ¬ rN (maxA X Y A B D n) D * (witS X Y (wits n X)).D < (witS X Y (wits n X)).N * rD (maxA X Y A B D n) D := by
  obtain ⟨v, e, _, he, e1, e2, _, h, _⟩ := told_any V
  rw [e1, e2, red_lt hD he]
  have := h A B D hD
  omega
/-- No witness tells more. -/
theorem tell_any {n : Nat} {X Y : Nat → Int} (V : VP n X Y) {m : Nat} {l : Nat → Int} (hw : witB n X m l = true) : ¬ (witS X Y (wits n X)).N * tlD X Y m l < tlN X Y m l * (witS X Y (wits n X)).D := by
  obtain ⟨v, e, _, he, e1, e2, T, _, _⟩ := told_any V
  rw [e1, e2]
  unfold witB at hw
  rw [Bool.and_eq_true] at hw
  obtain ⟨hg, hw⟩ := hw
  have at1 : ∀ k, k < m → at_ l k < n := fun k hk => by
    obtain ⟨i, hi, e⟩ := goodW_at hg hk
    unfold at_; rw [e]; simpa using hi
  unfold tlN tlD
  rw [Bool.or_eq_true, Bool.and_eq_true, Bool.and_eq_true, Bool.and_eq_true, decide_eq_true_eq, decide_eq_true_eq, decide_eq_true_eq, decide_eq_true_eq, beq_iff_eq] at hw
  rcases hw with ⟨rfl, hx⟩ | ⟨rfl, h1, h2⟩
  · rw [if_pos rfl, if_pos rfl]
    unfold t2N t2D
    rw [red_lt he (by omega)]
    have := T.two (at_ l 0) (at_ l 1) (at1 0 (by omega)) (at1 1 (by omega)) hx
    omega
  · rw [if_neg (by omega), if_neg (by omega)]
    have k := told3 (Y := Y) (b := at_ l 1) (show X (at_ l 0) < X (at_ l 2) by omega)
    have k1 : t3N X Y (at_ l 0) (at_ l 1) (at_ l 2) = rN (ab (dt X Y (at_ l 0) (at_ l 1) (at_ l 2))) (2 * (X (at_ l 2) - X (at_ l 0))) := k.1
    have k2 : t3D X Y (at_ l 0) (at_ l 1) (at_ l 2) = rD (ab (dt X Y (at_ l 0) (at_ l 1) (at_ l 2))) (2 * (X (at_ l 2) - X (at_ l 0))) := k.2
    rw [k1, k2, red_lt he (by omega)]
    have := T.tri (at_ l 0) (at_ l 1) (at_ l 2) (at1 0 (by omega)) (at1 1 (by omega)) (at1 2 (by omega)) h1 h2
    omega
/-- The least cost is no less than the least width, and at most as many times it as there are points. -/
theorem cost_width {n : Nat} {X Y : Nat → Int} (V : VP n X Y) {q : Nat × Nat} (hq : bst n X Y (prs X n) = some q) :
    ¬ pN n X Y q * (witS X Y (wits n X)).D < (witS X Y (wits n X)).N * pE n X Y q ∧ ¬ (witS X Y (wits n X)).N * n * pE n X Y q < pN n X Y q * (witS X Y (wits n X)).D := by
  have pb := prs_pr (X := X) (Nat.le_refl n) q (bst_mem hq)
  have dq := (pr_in V.ok pb).2.1
  obtain ⟨v, e, hv, he, e1, e2, _, h, _⟩ := told_any V
  constructor
  · rw [e1, e2]
    unfold pN pE
    rw [red_lt dq he]
    have h1 := h (pA X Y q) (pB X Y q) (pD X Y q) dq
    have h2 := (max_le_sum (X := X) (Y := Y) (A := pA X Y q) (B := pB X Y q) (D := pD X Y q) n).2.2.1
    have h3 := Int.mul_le_mul_of_nonneg_right h2 (show 0 ≤ e by omega)
    unfold pS
    omega
  · obtain ⟨⟨x1, x2⟩, xl⟩ := axis_ok V
    have dx : 0 < (axL n X Y (witS X Y (wits n X)).l).D := by have := xl.2.2.1; omega
    have ba := best_all V hq (axL n X Y (witS X Y (wits n X)).l).A (axL n X Y (witS X Y (wits n X)).l).B (axL n X Y (witS X Y (wits n X)).l).D
    obtain ⟨_, m0, _, ms⟩ := max_le_sum (X := X) (Y := Y) (A := (axL n X Y (witS X Y (wits n X)).l).A) (B := (axL n X Y (witS X Y (wits n X)).l).B) (D := (axL n X Y (witS X Y (wits n X)).l).D) n
    rw [← x1, ← x2]
    unfold pN pE
    generalize maxA X Y (axL n X Y (witS X Y (wits n X)).l).A (axL n X Y (witS X Y (wits n X)).l).B (axL n X Y (witS X Y (wits n X)).l).D n = M at *
    generalize sumA X Y (axL n X Y (witS X Y (wits n X)).l).A (axL n X Y (witS X Y (wits n X)).l).B (axL n X Y (witS X Y (wits n X)).l).D n = S at *
    generalize (axL n X Y (witS X Y (wits n X)).l).D = D at *
    generalize pS n X Y q = S0 at *
    generalize pD X Y q = D0 at *
    have k1 : S0 * D ≤ (n * M) * D0 := Int.le_trans ba (Int.mul_le_mul_of_nonneg_right ms (by omega))
    have g1 := rN_mul M D
    have g2 := rD_mul M D
    have g3 := rN_mul S0 D0
    have g4 := rD_mul S0 D0
    have p1 := gcd_pos M dx
    have p2 := gcd_pos S0 dq
    generalize rN M D = a at *
    generalize rD M D = b at *
    generalize rN S0 D0 = c at *
    generalize rD S0 D0 = d at *
    generalize (Int.gcd M D : Int) = g at *
    generalize (Int.gcd S0 D0 : Int) = o at *
    have pg := Int.mul_pos p1 p2
    intro hlt
    have := Int.mul_lt_mul_of_pos_right hlt pg
    have r1 : a * n * d * (g * o) = n * (a * g) * (d * o) := by grind
    have r2 : c * b * (g * o) = (c * o) * (b * g) := by grind
    rw [r1, r2, g1, g2, g3, g4] at this
    omega
end Go.Proofs.Ytbhndfnfohoidaa

namespace Go.Proofs.Ytbhndfnfohoidaa

theorem tl_bd {n : Nat} {X Y : Nat → Int} (ok : ∀ i, i < n → InP (X i) (Y i)) {m : Nat} {l : Nat → Int} (hw : witB n X m l = true) : (0 ≤ tlN X Y m l ∧ tlN X Y m l ≤ 800000) ∧ 0 < tlD X Y m l ∧ tlD X Y m l ≤ 400 := by
  have hw0 := hw
  unfold witB at hw
  rw [Bool.and_eq_true] at hw
  obtain ⟨hg, hw⟩ := hw
  have at1 : ∀ k, k < m → at_ l k < n := fun k hk => by
    obtain ⟨i, hi, e⟩ := goodW_at hg hk
    unfold at_; rw [e]; simpa using hi
  have nn : ∀ k, k < m → l k = ((at_ l k : Nat) : Int) := fun k hk => by
    obtain ⟨i, hi, e⟩ := goodW_at hg hk
    unfold at_; rw [e]; simp
  rw [Bool.or_eq_true, Bool.and_eq_true, Bool.and_eq_true, Bool.and_eq_true, decide_eq_true_eq, decide_eq_true_eq, decide_eq_true_eq, decide_eq_true_eq, beq_iff_eq] at hw
  unfold tlN tlD
  rcases hw with ⟨rfl, hx⟩ | ⟨rfl, h1, h2⟩
  · rw [if_pos rfl, if_pos rfl]
    obtain ⟨_, a3, a4⟩ := ok _ (at1 0 (by omega))
    obtain ⟨_, b3, b4⟩ := ok _ (at1 1 (by omega))
    have hb := ab_cases (Y (at_ l 0) - Y (at_ l 1))
    have h0 := ab_nonneg (Y (at_ l 0) - Y (at_ l 1))
    have k1 := rN_nonneg (d := 2) h0
    have k2 := rN_le (d := 2) h0
    have k3 := rD_pos (d := 2) (ab (Y (at_ l 0) - Y (at_ l 1))) (by omega)
    have k4 := rD_le (d := 2) (ab (Y (at_ l 0) - Y (at_ l 1))) (by omega)
    unfold t2N t2D
    omega
  · rw [if_neg (by omega), if_neg (by omega)]
    obtain ⟨t1, t2, t3⟩ := t3r_bd (ok _ (at1 0 (by omega))) (ok _ (at1 1 (by omega))) (ok _ (at1 2 (by omega))) (show X (at_ l 0) ≠ X (at_ l 2) by omega)
    unfold t3N t3D
    generalize t3r X Y (at_ l 0) (at_ l 1) (at_ l 2) = tr at *
    generalize t3d X Y (at_ l 0) (at_ l 2) = d at *
    have hb := ab_cases tr
    have h0 := ab_nonneg tr
    have k1 := rN_nonneg (d := 2 * d) h0
    have k2 := rN_le (d := 2 * d) h0
    have k3 := rD_pos (d := 2 * d) (ab tr) (by omega)
    have k4 := rD_le (d := 2 * d) (ab tr) (by omega)
    omega
theorem wi_two {n : Nat} {X Y : Nat → Int} (V : VP n X Y) (h : n = 2) : wiE n X Y = 5 ∧ (witS X Y (wits n X)).N = 0 := by
  rcases wit_cases V with ⟨e, _, e1, _⟩ | ⟨a, b, _, ⟨ha, hb, hne, hx⟩, _⟩ | ⟨a, b, c, _, ⟨ha, hb, hc, h1, h2⟩, _⟩
  · exact ⟨by unfold wiE; rw [vP_iff.2 V, if_pos rfl, if_pos e], e1⟩
  · obtain ⟨i, hi, hf⟩ := V.far
    have : i = 1 := by
      have : i ≠ 0 := fun e => by subst e; exact hf rfl
      omega
    subst this
    exfalso
    have : (a = 0 ∧ b = 1) ∨ (a = 1 ∧ b = 0) := by omega
    rcases this with ⟨rfl, rfl⟩ | ⟨rfl, rfl⟩
    · exact hf hx.symm
    · exact hf hx
  · have : a ≠ b := fun e => by subst e; omega
    have : b ≠ c := fun e => by subst e; omega
    have : a ≠ c := fun e => by subst e; omega
    omega
theorem wi_more {n : Nat} {X Y : Nat → Int} (V : VP n X Y) (h : n ≠ 2) : wiE n X Y = 0 ∧ teN n X Y (wiL n X Y).length (nf (wiL n X Y)) = (witS X Y (wits n X)).N ∧ teD n X Y (wiL n X Y).length (nf (wiL n X Y)) = (witS X Y (wits n X)).D ∧ teE n X Y (wiL n X Y).length (nf (wiL n X Y)) = 0 ∧ (wiL n X Y).length ≤ 3 := by
  have hv := vP_iff.2 V
  have hl : (witS X Y (wits n X)).l ≠ [] := fun e => by
    rcases wit_cases V with ⟨_, hn, _, _⟩ | ⟨a, b, e', _⟩ | ⟨a, b, c, e', _⟩
    · exact h (wits_nil V hn).1
    · rw [e] at e'; cases e'
    · rw [e] at e'; cases e'
  have hL : wiL n X Y = (witS X Y (wits n X)).l := by unfold wiL; rw [hv, if_pos rfl]
  rcases witS_own X Y (wits n X) wst0 with k | ⟨k1, k2, k3⟩
  · exact absurd (by unfold witS; rw [k]; rfl) hl
  · have hw := (wits_wit _ k1).1
    change witB n X (witS X Y (wits n X)).l.length (nf (witS X Y (wits n X)).l) = true at hw
    refine ⟨by unfold wiE; rw [hv, if_pos rfl, if_neg hl], ?_, ?_, ?_, ?_⟩
    · rw [hL]; unfold teN; rw [hv, hw]; exact k2.symm
    · rw [hL]; unfold teD; rw [hv, hw]; exact k3.symm
    · rw [hL]; unfold teE; rw [hv, hw]; rfl
    · rw [hL]; exact witS_short hl
end Go.Proofs.Ytbhndfnfohoidaa
