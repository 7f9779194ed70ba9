/- Weights that prove the least cost: there are two points on the best line, and signs for the others on it, so that the two get weights that are not too great: the plain law. Weights that prove the least cost: two points of the best line, and signs of the others on it: the plain law. -/
import Derived.Test.YtbhndfnfohoidaaPB
namespace Go.Proofs.Ytbhndfnfohoidaa

/-- The value at j of the line through (i, e i) and (k, e k), times how far these are apart. -/
def lam (X e : Nat → Int) (i k j : Nat) : Int := e i * (X k - X j) + e k * (X j - X i)
/-- The height of (j, e j) above that line, times how far these are apart. -/
def rr (X e : Nat → Int) (i k j : Nat) : Int := e j * (X k - X i) - lam X e i k j
/-- What a point costs: its height on the line, its value with its sign beside it. -/
def cc (r0 r l : Int) : Int := if r0 = 0 then ab r else if 0 < r0 then -l else l
def gg (r0 r p : Int) : Int := if r0 = 0 then hh r p else hh r0 p
def GG (n : Nat) (X e r0 : Nat → Int) (i k : Nat) : Int := sm (fun j => cc (r0 j) (rr X e i k j) (lam X e i k j)) n

theorem cc_move {r0 r r' l l' d d' o p : Int} (hd : 0 < d) (ho : 0 ≤ o) (h1 : d * r' = d' * r - o * p) (h2 : d * l' = d' * l + o * p) (c1 : r0 = 0 → 0 < r → o * p ≤ d' * r) (c2 : r0 = 0 → r < 0 → d' * r ≤ o * p) : d * cc r0 r' l' = d' * cc r0 r l + o * gg r0 r p := by
  unfold cc gg
  by_cases h0 : r0 = 0
  · rw [if_pos h0, if_pos h0, if_pos h0]
    have e : d * ab r' = ab (d * r') := by
      rw [ab_mul]; congr 1; unfold ab; omega
    rw [e, h1]
    exact hh_eq ho (c1 h0) (c2 h0)
  · rw [if_neg h0, if_neg h0, if_neg h0]
    unfold hh
    rw [if_neg h0]
    split
    · rw [Int.mul_neg, h2, Int.mul_neg, Int.mul_neg]; omega
    · rw [h2]

theorem lam_swap (X e : Nat → Int) (i k j : Nat) : lam X e k i j = -lam X e i k j := by unfold lam; grind
/-- Turned about a, from b to t. -/
theorem turn_id (X e : Nat → Int) (a b t j : Nat) : (X b - X a) * lam X e a t j = (X t - X a) * lam X e a b j + rr X e a b t * (X j - X a) := by unfold rr lam; grind
theorem rr_at (X e : Nat → Int) (a b : Nat) : rr X e a b a = 0 ∧ rr X e a b b = 0 := by unfold rr lam; constructor <;> grind

/-- The best of the pairs on the line, by a cost for all of which a turn cannot lower it. -/
theorem ray2 {n : Nat} {X e r0 : Nat → Int} (all : ∀ u v, 0 ≤ HS n r0 (fun i => u + v * X i)) {a b : Nat}
    {sg : Int} (hsg : (sg = 1 ∧ X a < X b) ∨ (sg = -1 ∧ X b < X a))
    (opt : ∀ t, t < n → r0 t = 0 → X t ≠ X a → (sm (fun j => cc (r0 j) (sg * rr X e a b j) (sg * lam X e a b j)) n) * ab (X t - X a) ≤ (sm (fun j => cc (r0 j) ((if X a < X t then 1 else -1) * rr X e a t j) ((if X a < X t then 1 else -1) * lam X e a t j)) n) * ab (X b - X a))
    {s : Int} (hs : s = 1 ∨ s = -1) : 0 ≤ sm (fun j => gg (r0 j) (sg * rr X e a b j) (s * (X j - X a))) n := by
  obtain ⟨r, hr⟩ : ∃ r : Nat → Int, (fun j => sg * rr X e a b j) = r := ⟨_, rfl⟩
  have hri : ∀ j, sg * rr X e a b j = r j := fun j => congrFun hr j
  simp only [hri] at opt ⊢
  by_cases hp : ∃ i, i < n ∧ (r0 i = 0 ∧ 0 < r i * (s * (X i - X a)))
  · obtain ⟨t, ht, ⟨rt, pt⟩, mt⟩ := least_frac (fun i => r0 i = 0 ∧ 0 < r i * (s * (X i - X a))) (fun i => ab (r i)) (fun i => ab (s * (X i - X a))) (fun i hi => by
      refine Int.not_le.1 fun h => ?_
      have := ab_nonneg (s * (X i - X a))
      have z : s * (X i - X a) = 0 := by unfold ab at h; omega
      have h2 := hi.2
      rw [z, Int.mul_zero] at h2
      omega) n hp
    have hx : X t ≠ X a := fun e => by rw [e, Int.sub_self, Int.mul_zero, Int.mul_zero] at pt; omega
    have op := opt t ht rt hx
    have db : 0 < ab (X b - X a) := by unfold ab; omega
    have dt' : ab (s * (X t - X a)) = ab (X t - X a) := ab_sg (by rcases hs with rfl | rfl <;> omega)
    rw [dt'] at mt
    have sgn : (0 < r t ∧ 0 < s * (X t - X a)) ∨ (r t < 0 ∧ s * (X t - X a) < 0) := by
      rcases Int.lt_trichotomy (r t) 0 with h | h | h
      · right
        refine ⟨h, Int.not_le.1 fun k => ?_⟩
        have := Int.mul_nonneg (show 0 ≤ -r t by omega) k
        rw [Int.neg_mul] at this
        omega
      · rw [h, Int.zero_mul] at pt; omega
      · left
        refine ⟨h, Int.not_le.1 fun k => ?_⟩
        have := Int.mul_nonneg (show 0 ≤ r t by omega) (show 0 ≤ -(s * (X t - X a)) by omega)
        rw [Int.mul_neg] at this
        omega
    have rt0 : 0 < ab (r t) := by unfold ab; omega
    obtain ⟨sg', hsg'⟩ : ∃ x : Int, (if X a < X t then 1 else -1 : Int) = x := ⟨_, rfl⟩
    rw [hsg'] at op
    have hs' : (sg' = 1 ∧ X a < X t) ∨ (sg' = -1 ∧ X t < X a) := by
      by_cases h : X a < X t
      · rw [if_pos h] at hsg'; left; exact ⟨hsg'.symm, h⟩
      · rw [if_neg h] at hsg'; right; exact ⟨hsg'.symm, by omega⟩
    have D1 : ab (X b - X a) = sg * (X b - X a) := by unfold ab; rcases hsg with ⟨rfl, h⟩ | ⟨rfl, h⟩ <;> omega
    have D2 : ab (X t - X a) = sg' * (X t - X a) := by unfold ab; rcases hs' with ⟨rfl, h⟩ | ⟨rfl, h⟩ <;> omega
    have R1 : r t = sg * rr X e a b t := (hri t).symm
    have R2 : ab (r t) * s = r t * sg' := by
      rcases sgn with ⟨k1, k2⟩ | ⟨k1, k2⟩
      · have a2 : ab (r t) = r t := by unfold ab; omega
        rw [a2]
        congr 1
        rcases hs with rfl | rfl <;> rcases hs' with ⟨rfl, h⟩ | ⟨rfl, h⟩ <;> omega
      · have a2 : ab (r t) = -(r t) := by unfold ab; omega
        rw [a2]
        rcases hs with rfl | rfl <;> rcases hs' with ⟨rfl, h⟩ | ⟨rfl, h⟩ <;> omega
    have mv : ∀ j, j < n → ab (X b - X a) * cc (r0 j) (sg' * rr X e a t j) (sg' * lam X e a t j) = ab (X t - X a) * cc (r0 j) (r j) (sg * lam X e a b j) + ab (r t) * gg (r0 j) (r j) (s * (X j - X a)) := fun j hj => by
      have T := turn_id X e a b t j
      have lm : ab (X b - X a) * (sg' * lam X e a t j) = ab (X t - X a) * (sg * lam X e a b j) + ab (r t) * (s * (X j - X a)) := by
        have : ab (r t) * (s * (X j - X a)) = (ab (r t) * s) * (X j - X a) := by grind
        rw [this, R2, R1, D1, D2]
        generalize lam X e a t j = p at *
        generalize lam X e a b j = q at *
        generalize rr X e a b t = u at *
        grind
      refine cc_move db (ab_nonneg _) ?_ lm (fun h0 h => ?_) (fun h0 h => ?_)
      · rw [← hri j]
        have e1 : ab (X b - X a) * (sg' * rr X e a t j) = ab (X b - X a) * (sg' * (e j * (X t - X a))) - ab (X b - X a) * (sg' * lam X e a t j) := by unfold rr; grind
        rw [e1, lm, D1, D2]
        unfold rr
        generalize ab (r t) * (s * (X j - X a)) = z
        generalize lam X e a b j = q
        grind
      · rcases Int.lt_or_le 0 (s * (X j - X a)) with k | k
        · have := mt j hj ⟨h0, Int.mul_pos h k⟩
          have a1 : ab (s * (X j - X a)) = s * (X j - X a) := by unfold ab; omega
          have a2 : ab (r j) = r j := by unfold ab; omega
          rw [a1, a2, Int.mul_comm (r j)] at this
          exact this
        · have m1 := Int.mul_nonneg (ab_nonneg (r t)) (show 0 ≤ -(s * (X j - X a)) by omega)
          have m2 := Int.mul_nonneg (ab_nonneg (X t - X a)) (show 0 ≤ r j by omega)
          rw [Int.mul_neg] at m1
          omega
      · rcases Int.lt_or_le (s * (X j - X a)) 0 with k | k
        · have pp : 0 < r j * (s * (X j - X a)) := by
            have := Int.mul_pos (show 0 < -r j by omega) (show 0 < -(s * (X j - X a)) by omega)
            rw [Int.neg_mul_neg] at this
            exact this
          have := mt j hj ⟨h0, pp⟩
          have a1 : ab (s * (X j - X a)) = -(s * (X j - X a)) := by unfold ab; omega
          have a2 : ab (r j) = -(r j) := by unfold ab; omega
          rw [a1, a2, Int.mul_neg, Int.neg_mul, Int.mul_comm (r j)] at this
          omega
        · have m1 := Int.mul_nonneg (ab_nonneg (r t)) k
          have m2 := Int.mul_nonneg (ab_nonneg (X t - X a)) (show 0 ≤ -r j by omega)
          rw [Int.mul_neg] at m2
          omega
    have e3 : (sm (fun j => cc (r0 j) (sg' * rr X e a t j) (sg' * lam X e a t j)) n) * ab (X b - X a) = ab (X t - X a) * sm (fun j => cc (r0 j) (r j) (sg * lam X e a b j)) n + ab (r t) * sm (fun j => gg (r0 j) (r j) (s * (X j - X a))) n := by
      rw [← sm_lin, ← sm_mul]
      exact sm_congr fun j hj => by rw [Int.mul_comm]; exact mv j hj
    rw [e3, Int.mul_comm] at op
    refine Int.not_lt.1 fun h => ?_
    have := Int.mul_pos rt0 (show 0 < -sm (fun j => gg (r0 j) (r j) (s * (X j - X a))) n by omega)
    rw [Int.mul_neg] at this
    omega
  · have h := all (-(s * X a)) s
    have e1 : HS n r0 (fun i => -(s * X a) + s * X i) = sm (fun j => gg (r0 j) (r j) (s * (X j - X a))) n := by
      unfold HS
      refine sm_congr fun j hj => ?_
      have e2 : -(s * X a) + s * X j = s * (X j - X a) := by grind
      show hh (r0 j) (-(s * X a) + s * X j) = _
      rw [e2]
      unfold gg
      by_cases h0 : r0 j = 0
      · rw [if_pos h0, h0]
        have np : ¬ 0 < r j * (s * (X j - X a)) := fun h => hp ⟨j, hj, h0, h⟩
        unfold hh
        rw [if_pos rfl]
        split
        · rfl
        · split
          · rename_i k1 k2
            have : ¬ 0 < s * (X j - X a) := fun h => np (Int.mul_pos k2 h)
            unfold ab; omega
          · rename_i k1 k2
            have : ¬ s * (X j - X a) < 0 := fun h => np (by
              have := Int.mul_pos (show 0 < -r j by omega) (show 0 < -(s * (X j - X a)) by omega)
              rw [Int.neg_mul_neg] at this
              exact this)
            unfold ab; omega
      · rw [if_neg h0]
    rw [← e1]
    exact h
end Go.Proofs.Ytbhndfnfohoidaa

namespace Go.Proofs.Ytbhndfnfohoidaa

/-- Heights by which no three points lie on a line. -/
def eh (X : Nat → Int) (j : Nat) : Int := 100000 * (X j * X j) + j
theorem eh_bd {j d : Int} (h1 : 0 ≤ j) (h2 : j ≤ 11) (h3 : -200 ≤ d) (h4 : d ≤ 200) : -2200 ≤ j * d ∧ j * d ≤ 2200 := by
  have a := Int.mul_le_mul_of_nonneg_left h4 h1
  have b := Int.mul_le_mul_of_nonneg_left h3 h1
  constructor <;> omega
theorem rr_ne {n : Nat} {X : Nat → Int} (hn : n ≤ 12) (ok : ∀ i, i < n → -100 ≤ X i ∧ X i ≤ 100) {i k j : Nat} (hi : i < n) (hk : k < n) (hj : j < n) (h : X i ≠ X k) (ji : j ≠ i) (jk : j ≠ k) : rr X (eh X) i k j ≠ 0 := by
  have bi := ok i hi
  have bk := ok k hk
  have bj := ok j hj
  by_cases e1 : X j = X i
  · have : rr X (eh X) i k j = ((j : Int) - i) * (X k - X i) := by unfold rr lam eh; rw [e1]; grind
    rw [this]
    exact Int.mul_ne_zero (by omega) (by omega)
  by_cases e2 : X j = X k
  · have : rr X (eh X) i k j = ((j : Int) - k) * (X k - X i) := by unfold rr lam eh; rw [e2]; grind
    rw [this]
    exact Int.mul_ne_zero (by omega) (by omega)
  have e3 : rr X (eh X) i k j = -(100000 * ((X j - X i) * (X k - X j) * (X k - X i))) + ((j : Int) * (X k - X i) - (i : Int) * (X k - X j) - (k : Int) * (X j - X i)) := by unfold rr lam eh; grind
  have pn : (X j - X i) * (X k - X j) * (X k - X i) ≠ 0 := Int.mul_ne_zero (Int.mul_ne_zero (by omega) (by omega)) (by omega)
  have m1 := eh_bd (j := j) (d := X k - X i) (by omega) (by omega) (by omega) (by omega)
  have m2 := eh_bd (j := i) (d := X k - X j) (by omega) (by omega) (by omega) (by omega)
  have m3 := eh_bd (j := k) (d := X j - X i) (by omega) (by omega) (by omega) (by omega)
  rw [e3]
  omega

theorem sm_at {c : Int} {k : Nat} : ∀ n, sm (fun j => if j = k then c else 0) n = if k < n then c else 0 := by
  intro n
  induction n with
  | zero => rfl
  | succ n ih =>
    unfold sm
    rw [ih]
    by_cases h : n = k
    · subst h; simp
    · rw [if_neg h]
      by_cases h2 : k < n
      · rw [if_pos h2, if_pos (by omega)]; omega
      · rw [if_neg h2, if_neg (by omega)]; omega

/-- The sign of a number. -/
def sn (x : Int) : Int := if x = 0 then 0 else if 0 < x then 1 else -1
/-- The weights, but for those of two points. -/
def wt0 (r0 g : Nat → Int) (i k j : Nat) : Int := if r0 j = 0 then (if j = i ∨ j = k then 0 else g j) else sn (r0 j)

theorem exists_w {n : Nat} {X r0 : Nat → Int} (hn : n ≤ 12) (ok : ∀ i, i < n → -100 ≤ X i ∧ X i ≤ 100) (all : ∀ u v, 0 ≤ HS n r0 (fun i => u + v * X i)) (two : ∃ i k, i < n ∧ k < n ∧ r0 i = 0 ∧ r0 k = 0 ∧ X i < X k) :
    ∃ i k, i < n ∧ k < n ∧ r0 i = 0 ∧ r0 k = 0 ∧ X i < X k ∧ ∃ g : Nat → Int, (∀ j, g j = 1 ∨ g j = -1) ∧
      ab (sm (fun j => wt0 r0 g i k j * (X j - X i)) n) ≤ X k - X i ∧ ab (sm (fun j => wt0 r0 g i k j * (X j - X k)) n) ≤ X k - X i := by
  obtain ⟨i0, k0, hi0, hk0, ri0, rk0, hx0⟩ := two
  have dm : ∀ {p q : Nat}, q < n → (p * n + q) / n = p ∧ (p * n + q) % n = q := fun {p q} hq => by
    have h : 0 < n := by omega
    constructor
    · rw [Nat.mul_comm, Nat.mul_add_div h, Nat.div_eq_of_lt hq]; omega
    · rw [Nat.mul_comm, Nat.mul_add_mod, Nat.mod_eq_of_lt hq]
  have lt2 : ∀ {p q : Nat}, p < n → q < n → p * n + q < n * n := fun {p q} hp hq => by
    have := Nat.mul_le_mul_right n (show p + 1 ≤ n by omega)
    rw [Nat.add_mul] at this
    omega
  obtain ⟨t, ht, ⟨ri, rk, hx⟩, mt⟩ := least_frac (fun p => r0 (p / n) = 0 ∧ r0 (p % n) = 0 ∧ X (p / n) < X (p % n)) (fun p => GG n X (eh X) r0 (p / n) (p % n)) (fun p => X (p % n) - X (p / n)) (fun p h => by have := h.2.2; show 0 < X (p % n) - X (p / n); omega) (n * n)
    ⟨i0 * n + k0, lt2 hi0 hk0, by obtain ⟨a, b⟩ := dm (p := i0) hk0; rw [a, b]; exact ⟨ri0, rk0, hx0⟩⟩
  have hi : t / n < n := Nat.div_lt_of_lt_mul ht
  have hk : t % n < n := Nat.mod_lt _ (by omega)
  generalize t / n = i at *
  generalize t % n = k at *
  have best : ∀ p q, p < n → q < n → r0 p = 0 → r0 q = 0 → X p < X q → GG n X (eh X) r0 i k * (X q - X p) ≤ GG n X (eh X) r0 p q * (X k - X i) := fun p q hp hq rp rq h => by
    obtain ⟨a, b⟩ := dm (p := p) hq
    have := mt (p * n + q) (lt2 hp hq) (by rw [a, b]; exact ⟨rp, rq, h⟩)
    rw [a, b] at this
    exact this
  have swr : ∀ p q j, -1 * rr X (eh X) p q j = rr X (eh X) q p j := fun p q j => by unfold rr; rw [lam_swap]; grind
  have swl : ∀ p q j, -1 * lam X (eh X) p q j = lam X (eh X) q p j := fun p q j => by rw [lam_swap X _ q p]; omega
  have G1 : ∀ p q, sm (fun j => cc (r0 j) (1 * rr X (eh X) p q j) (1 * lam X (eh X) p q j)) n = GG n X (eh X) r0 p q := fun p q => by simp only [Int.one_mul]; rfl
  have G2 : ∀ p q, sm (fun j => cc (r0 j) (-1 * rr X (eh X) p q j) (-1 * lam X (eh X) p q j)) n = GG n X (eh X) r0 q p := fun p q => by simp only [swr, swl]; rfl
  have A : ∀ s, (s = 1 ∨ s = -1) → 0 ≤ sm (fun j => gg (r0 j) (rr X (eh X) i k j) (s * (X j - X i))) n := fun s hs => by
    have := ray2 (e := eh X) all (a := i) (b := k) (sg := 1) (.inl ⟨rfl, hx⟩) (fun q hq rq hne => by
      rw [G1]
      have db : ab (X k - X i) = X k - X i := by unfold ab; omega
      rw [db]
      by_cases h : X i < X q
      · simp only [if_pos h]
        rw [G1, show ab (X q - X i) = X q - X i by unfold ab; omega]
        exact best i q hi hq ri rq h
      · simp only [if_neg h]
        rw [G2, show ab (X q - X i) = X i - X q by unfold ab; omega]
        exact best q i hq hi rq ri (by omega)) hs
    simp only [Int.one_mul] at this
    exact this
  have B : ∀ s, (s = 1 ∨ s = -1) → 0 ≤ sm (fun j => gg (r0 j) (rr X (eh X) i k j) (s * (X j - X k))) n := fun s hs => by
    have := ray2 (e := eh X) all (a := k) (b := i) (sg := -1) (.inr ⟨rfl, hx⟩) (fun q hq rq hne => by
      rw [G2]
      have db : ab (X i - X k) = X k - X i := by unfold ab; omega
      rw [db]
      by_cases h : X k < X q
      · simp only [if_pos h]
        rw [G1, show ab (X q - X k) = X q - X k by unfold ab; omega]
        exact best k q hk hq rk rq h
      · simp only [if_neg h]
        rw [G2, show ab (X q - X k) = X k - X q by unfold ab; omega]
        exact best q k hq hk rq rk (by omega)) hs
    simp only [swr] at this
    exact this
  have sgn : ∀ {a p : Int}, a ≠ 0 → hh a p = -(sn a * p) := fun {a p} h => by
    unfold hh sn
    rw [if_neg h, if_neg h]
    split <;> omega
  obtain ⟨g, hg⟩ : ∃ g : Nat → Int, (fun j => if 0 < rr X (eh X) i k j then 1 else -1) = g := ⟨_, rfl⟩
  have hgj : ∀ j, g j = if 0 < rr X (eh X) i k j then 1 else -1 := fun j => (congrFun hg j).symm
  have gt : ∀ j, j < n → j ≠ i → j ≠ k → ∀ p, hh (rr X (eh X) i k j) p = -(g j * p) := fun j hj ji jk p => by
    have ne := rr_ne hn ok hi hk hj (by omega) ji jk
    rw [sgn ne, hgj]
    unfold sn
    rw [if_neg ne]
  obtain ⟨rii, rik⟩ := rr_at X (eh X) i k
  have tA : ∀ s, (s = 1 ∨ s = -1) → ∀ j, j < n → gg (r0 j) (rr X (eh X) i k j) (s * (X j - X i)) = (-s) * (wt0 r0 g i k j * (X j - X i)) + 1 * (if j = k then X k - X i else 0) := fun s hs j hj => by
    unfold gg wt0
    by_cases h0 : r0 j = 0
    · rw [if_pos h0, if_pos h0]
      by_cases ji : j = i
      · subst ji
        rw [if_pos (.inl rfl), rii, if_neg (fun h : j = k => by rw [h] at hx; omega)]
        unfold hh ab; rw [if_pos rfl]; simp
      · by_cases jk : j = k
        · subst jk
          rw [if_pos (.inr rfl), rik, if_pos rfl]
          unfold hh ab; rw [if_pos rfl]; rcases hs with rfl | rfl <;> omega
        · rw [if_neg (by omega), gt j hj ji jk, if_neg jk]; grind
    · rw [if_neg h0, if_neg h0, sgn h0, if_neg (by rintro rfl; exact h0 rk)]; grind
  have tB : ∀ s, (s = 1 ∨ s = -1) → ∀ j, j < n → gg (r0 j) (rr X (eh X) i k j) (s * (X j - X k)) = (-s) * (wt0 r0 g i k j * (X j - X k)) + 1 * (if j = i then X k - X i else 0) := fun s hs j hj => by
    unfold gg wt0
    by_cases h0 : r0 j = 0
    · rw [if_pos h0, if_pos h0]
      by_cases ji : j = i
      · subst ji
        rw [if_pos (.inl rfl), rii, if_pos rfl]
        unfold hh ab; rw [if_pos rfl]; rcases hs with rfl | rfl <;> omega
      · by_cases jk : j = k
        · subst jk
          rw [if_pos (.inr rfl), rik, if_neg ji]
          unfold hh ab; rw [if_pos rfl]; simp
        · rw [if_neg (by omega), gt j hj ji jk, if_neg ji]; grind
    · rw [if_neg h0, if_neg h0, sgn h0, if_neg (by rintro rfl; exact h0 ri)]; grind
  refine ⟨i, k, hi, hk, ri, rk, hx, g, fun j => by rw [hgj]; split <;> simp, ?_, ?_⟩
  · have h1 := A 1 (.inl rfl)
    have h2 := A (-1) (.inr rfl)
    rw [sm_congr (tA 1 (.inl rfl)), sm_lin, sm_at, if_pos hk] at h1
    rw [sm_congr (tA (-1) (.inr rfl)), sm_lin, sm_at, if_pos hk] at h2
    rw [ab_le]
    constructor <;> omega
  · have h1 := B 1 (.inl rfl)
    have h2 := B (-1) (.inr rfl)
    rw [sm_congr (tB 1 (.inl rfl)), sm_lin, sm_at, if_pos hi] at h1
    rw [sm_congr (tB (-1) (.inr rfl)), sm_lin, sm_at, if_pos hi] at h2
    rw [ab_le]
    constructor <;> omega
end Go.Proofs.Ytbhndfnfohoidaa
