/- The line through the middle of two points of one X has the width that they tell: the plain law. -/
import Derived.Test.YtbhndfnfohoidaaP12
namespace Go.Proofs.Ytbhndfnfohoidaa

/-- The least slope that a point lets be, as a fraction. -/
def bd (x0 x : Int) : Int := if 2 * (x - x0) < 0 then -(2 * (x - x0)) else 2 * (x - x0)
def bn (x0 wd mid x y : Int) : Int := if 2 * (x - x0) < 0 then -(2 * y + wd - mid) else 2 * y - wd - mid
structure Bs where
  N : Int
  D : Int
def bstp (x0 wd mid : Int) (s : Bs) (x y : Int) : Bs :=
  if x = x0 then s else if s.D = 0 ∨ s.N * rD (bn x0 wd mid x y) (bd x0 x) < rN (bn x0 wd mid x y) (bd x0 x) * s.D then ⟨rN (bn x0 wd mid x y) (bd x0 x), rD (bn x0 wd mid x y) (bd x0 x)⟩ else s
def bsd (X Y : Nat → Int) (x0 wd mid : Int) : Nat → Bs
  | 0 => ⟨0, 0⟩
  | k + 1 => bstp x0 wd mid (bsd X Y x0 wd mid k) (X k) (Y k)
theorem bd_pos {x0 x : Int} (h : x ≠ x0) : 0 < bd x0 x := by unfold bd; split <;> omega
theorem bn_bd {x0 wd mid x y : Int} (h0 : -100 ≤ x0 ∧ x0 ≤ 100) (hp : InP x y) (hw : 0 ≤ wd ∧ wd ≤ 2000) (hm : -2000 ≤ mid ∧ mid ≤ 2000) : (-6000 ≤ bn x0 wd mid x y ∧ bn x0 wd mid x y ≤ 6000) ∧ bd x0 x ≤ 400 := by
  obtain ⟨⟨a1, a2⟩, a3, a4⟩ := hp
  unfold bn bd
  split <;> omega

/-- What was found: nothing yet, or the greatest of the least slopes of the points that were seen. -/
theorem bsd_spec (X Y : Nat → Int) (x0 wd mid : Int) : ∀ k, (bsd X Y x0 wd mid k = ⟨0, 0⟩ ∧ ∀ i, i < k → X i = x0) ∨
    (∃ q, q < k ∧ X q ≠ x0 ∧ bsd X Y x0 wd mid k = ⟨rN (bn x0 wd mid (X q) (Y q)) (bd x0 (X q)), rD (bn x0 wd mid (X q) (Y q)) (bd x0 (X q))⟩ ∧
      ∀ i, i < k → X i ≠ x0 → bn x0 wd mid (X i) (Y i) * bd x0 (X q) ≤ bn x0 wd mid (X q) (Y q) * bd x0 (X i)) := by
  intro k
  induction k with
  | zero => exact .inl ⟨rfl, fun i h => by omega⟩
  | succ k ih =>
    rw [bsd]
    unfold bstp
    by_cases hx : X k = x0
    · rw [if_pos hx]
      rcases ih with ⟨e, h⟩ | ⟨q, hq, hne, e, h⟩
      · refine .inl ⟨e, fun i hi => ?_⟩
        by_cases ei : i = k
        · subst ei; exact hx
        · exact h i (by omega)
      · refine .inr ⟨q, by omega, hne, e, fun i hi hi2 => ?_⟩
        by_cases ei : i = k
        · subst ei; exact absurd hx hi2
        · exact h i (by omega) hi2
    · rw [if_neg hx]
      have pk := bd_pos hx
      rcases ih with ⟨e, h⟩ | ⟨q, hq, hne, e, h⟩
      · rw [e, if_pos (.inl rfl)]
        refine .inr ⟨k, by omega, hx, rfl, fun i hi hi2 => ?_⟩
        by_cases ei : i = k
        · subst ei; exact Int.le_refl _
        · exact absurd (h i (by omega)) hi2
      · have pq := bd_pos hne
        rw [e]
        simp only
        by_cases hlt : rN (bn x0 wd mid (X q) (Y q)) (bd x0 (X q)) * rD (bn x0 wd mid (X k) (Y k)) (bd x0 (X k)) < rN (bn x0 wd mid (X k) (Y k)) (bd x0 (X k)) * rD (bn x0 wd mid (X q) (Y q)) (bd x0 (X q))
        · rw [if_pos (.inr hlt)]
          have hlt' := (red_lt pq pk).1 hlt
          refine .inr ⟨k, by omega, hx, rfl, fun i hi hi2 => ?_⟩
          by_cases ei : i = k
          · subst ei; exact Int.le_refl _
          · exact frac_trans pq (h i (by omega) hi2) (Int.le_of_lt hlt') (bd_pos hi2) pk
        · have hne0 : ¬ rD (bn x0 wd mid (X q) (Y q)) (bd x0 (X q)) = 0 := by have := rD_pos (bn x0 wd mid (X q) (Y q)) pq; omega
          rw [if_neg (fun h' => h'.elim hne0 hlt)]
          refine .inr ⟨q, by omega, hne, rfl, fun i hi hi2 => ?_⟩
          by_cases ei : i = k
          · subst ei
            exact Int.not_lt.1 (fun h' => hlt ((red_lt pq pk).2 h'))
          · exact h i (by omega) hi2

/-- Of three points of which two told most: their heights by products. -/
theorem tri_lin {n : Nat} {X Y : Nat → Int} {wd : Int} (T : Top n X Y wd 2) {i j k : Nat} (hi : i < n) (hj : j < n) (hk : k < n) (h1 : X i < X j) (h2 : X j < X k) :
    -(wd * (X k - X i)) ≤ dt X Y i j k ∧ dt X Y i j k ≤ wd * (X k - X i) := by
  have h := T.tri i j k hi hj hk h1 h2
  have : wd * (2 * (X k - X i)) = 2 * (wd * (X k - X i)) := by grind
  rw [← ab_le]
  omega
theorem two_lin {n : Nat} {X Y : Nat → Int} {wd : Int} (T : Top n X Y wd 2) {i k : Nat} (hi : i < n) (hk : k < n) (h : X i = X k) : -wd ≤ Y i - Y k ∧ Y i - Y k ≤ wd := by
  have h := T.two i k hi hk h
  rw [← ab_le]
  omega

/-- The least slope of one point is at most the greatest of another one: t lies on top, u below. -/
theorem slope_rr {n : Nat} {X Y : Nat → Int} {t u : Nat} (ht : t < n) (hu : u < n) (hx : X t = X u) (T : Top n X Y (Y t - Y u) 2) {p q : Nat} (hp : p < n) (hq : q < n) (np : X t < X p) (nq : X t < X q) :
    (Y p - Y t) * (X q - X t) ≤ (Y q - Y u) * (X p - X t) := by
  rcases Int.lt_trichotomy (X p) (X q) with h | h | h
  · have k := (tri_lin T hu hp hq (by omega) h).2
    unfold dt at k
    rw [← hx] at k
    generalize X t = x at *
    grind
  · have k := (two_lin T hp hq h).2
    have e : (Y p - Y t) * (X q - X t) ≤ (Y q - Y u) * (X q - X t) := Int.mul_le_mul_of_nonneg_right (by omega) (by omega)
    rw [h]; exact e
  · have k := (tri_lin T ht hq hp nq h).1
    unfold dt at k
    generalize X t = x at *
    grind
theorem slope_ll {n : Nat} {X Y : Nat → Int} {t u : Nat} (ht : t < n) (hu : u < n) (hx : X t = X u) (T : Top n X Y (Y t - Y u) 2) {p q : Nat} (hp : p < n) (hq : q < n) (np : X p < X t) (nq : X q < X t) :
    -(Y p - Y u) * (X t - X q) ≤ (Y t - Y q) * (X t - X p) := by
  rcases Int.lt_trichotomy (X p) (X q) with h | h | h
  · have k := (tri_lin T hp hq hu h (by omega)).2
    unfold dt at k
    rw [← hx] at k
    generalize X t = x at *
    grind
  · have k := (two_lin T hp hq h).1
    have e : -(Y p - Y u) * (X t - X q) ≤ (Y t - Y q) * (X t - X q) := Int.mul_le_mul_of_nonneg_right (by omega) (by omega)
    rw [h]; exact e
  · have k := (tri_lin T hq hp ht h np).1
    unfold dt at k
    generalize X t = x at *
    grind
theorem slope_rl {n : Nat} {X Y : Nat → Int} {t u : Nat} (_ht : t < n) (hu : u < n) (hx : X t = X u) (T : Top n X Y (Y t - Y u) 2) {p q : Nat} (hp : p < n) (hq : q < n) (np : X t < X p) (nq : X q < X t) :
    (Y p - Y t) * (X t - X q) ≤ (Y t - Y q) * (X p - X t) := by
  have k := (tri_lin T hq hu hp (by omega) (by omega)).1
  unfold dt at k
  rw [← hx] at k
  generalize X t = x at *
  grind
theorem slope_lr {n : Nat} {X Y : Nat → Int} {t u : Nat} (ht : t < n) (_hu : u < n) (_hx : X t = X u) (T : Top n X Y (Y t - Y u) 2) {p q : Nat} (hp : p < n) (hq : q < n) (np : X p < X t) (nq : X t < X q) :
    -(Y p - Y u) * (X q - X t) ≤ (Y q - Y u) * (X t - X p) := by
  have k := (tri_lin T hp ht hq np nq).2
  unfold dt at k
  generalize X t = x at *
  grind

/-- From fractions to lowest terms. -/
theorem frac_le {N E nn d v k : Int} (e : N * d = nn * E) (hd : 0 < d) (hE : 0 < E) (h : nn * v ≤ d * k) : N * v ≤ E * k := by
  refine div_le hd ?_
  have k1 : nn * v * E ≤ d * k * E := Int.mul_le_mul_of_nonneg_right h (by omega)
  have k2 : N * v * d = nn * v * E := by grind
  have k3 : E * k * d = d * k * E := by grind
  omega
theorem frac_ge {N E nn d v k : Int} (e : N * d = nn * E) (hd : 0 < d) (hE : 0 < E) (h : k * d ≤ nn * v) : k * E ≤ N * v := by
  refine div_le hd ?_
  have k1 : k * d * E ≤ nn * v * E := Int.mul_le_mul_of_nonneg_right h (by omega)
  have k2 : N * v * d = nn * v * E := by grind
  have k3 : k * E * d = k * d * E := by grind
  omega

/-- No point is farther from the line than half of what the two tell. -/
theorem beside_fit {n : Nat} {X Y : Nat → Int} {t u : Nat} (ht : t < n) (hu : u < n) (hx : X t = X u) (T : Top n X Y (Y t - Y u) 2) {N E : Int} (hE : 0 < E)
    {p : Nat} (hp : p < n) (np : X p ≠ X t) (he : N * bd (X t) (X p) = bn (X t) (Y t - Y u) (Y t + Y u) (X p) (Y p) * E)
    (hm : ∀ i, i < n → X i ≠ X t → bn (X t) (Y t - Y u) (Y t + Y u) (X i) (Y i) * bd (X t) (X p) ≤ bn (X t) (Y t - Y u) (Y t + Y u) (X p) (Y p) * bd (X t) (X i)) {q : Nat} (hq : q < n) :
    ab (rs (X q) (Y q) (2 * N) ((Y t + Y u) * E - 2 * N * X t) (2 * E)) ≤ (Y t - Y u) * E := by
  have rr : rs (X q) (Y q) (2 * N) ((Y t + Y u) * E - 2 * N * X t) (2 * E) = (2 * Y q - Y t - Y u) * E - 2 * (N * (X q - X t)) := by unfold rs; grind
  rw [rr, ab_le]
  by_cases nq : X q = X t
  · have k1 := two_lin T hq ht nq
    have k2 := two_lin T hq hu (by omega)
    rw [nq, Int.sub_self, Int.mul_zero]
    have l1 : (2 * Y q - Y t - Y u) * E ≤ (Y t - Y u) * E := Int.mul_le_mul_of_nonneg_right (by omega) (by omega)
    have l2 : -(Y t - Y u) * E ≤ (2 * Y q - Y t - Y u) * E := Int.mul_le_mul_of_nonneg_right (by omega) (by omega)
    rw [Int.neg_mul] at l2
    omega
  · have h := hm q hq nq
    have pp := bd_pos np
    have lo := frac_ge he pp hE h
    have up : bn (X t) (Y t - Y u) (Y t + Y u) (X p) (Y p) * (2 * (if X t < X q then X q - X t else X t - X q)) ≤ bd (X t) (X p) * (2 * (if X t < X q then Y q - Y u else Y t - Y q)) := by
      unfold bn bd
      by_cases a : X t < X q
      · rw [if_pos a, if_pos a]
        by_cases b : X t < X p
        · rw [if_neg (by omega), if_neg (by omega)]
          have := slope_rr ht hu hx T hp hq b a
          grind
        · rw [if_pos (by omega), if_pos (by omega)]
          have := slope_lr ht hu hx T hp hq (by omega) a
          grind
      · rw [if_neg a, if_neg a]
        by_cases b : X t < X p
        · rw [if_neg (by omega), if_neg (by omega)]
          have := slope_rl ht hu hx T hp hq b (by omega)
          grind
        · rw [if_pos (by omega), if_pos (by omega)]
          have := slope_ll ht hu hx T hp hq (by omega) (by omega)
          grind
    have up := frac_le he pp hE up
    unfold bn bd at lo
    by_cases a : X t < X q
    · rw [if_neg (by omega), if_neg (by omega)] at lo
      rw [if_pos a, if_pos a] at up
      constructor <;> grind
    · rw [if_pos (by omega), if_pos (by omega)] at lo
      rw [if_neg a, if_neg a] at up
      constructor <;> grind
end Go.Proofs.Ytbhndfnfohoidaa
