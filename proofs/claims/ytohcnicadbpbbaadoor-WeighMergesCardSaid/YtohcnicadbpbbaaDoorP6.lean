/- Sums along a row: the plain law of the curve, of the area and of the pairs. -/
import Derived.Test.YtohcnicadbpbbaaDoorW2
import Derived.Test.YtohcnicadbpbbaaDoorP5
namespace Go.Proofs.YtohcnicadbpbbaaDoor

theorem sm_add (f g : Nat → Int) : ∀ n, sm (fun i => f i + g i) n = sm f n + sm g n
  | 0 => rfl
  | n + 1 => by
    show sm (fun i => f i + g i) n + (f n + g n) = (sm f n + f n) + (sm g n + g n)
    rw [sm_add f g n]; omega
theorem sm_mul (c : Int) (f : Nat → Int) : ∀ n, sm (fun i => c * f i) n = c * sm f n
  | 0 => by simp [sm]
  | n + 1 => by
    show sm (fun i => c * f i) n + c * f n = c * (sm f n + f n)
    rw [sm_mul c f n, Int.mul_add]
theorem sm_mulr (c : Int) (f : Nat → Int) (n : Nat) : sm (fun i => f i * c) n = sm f n * c := by
  rw [Int.mul_comm, ← sm_mul]; exact sm_congr fun i _ => Int.mul_comm _ _
theorem sm_mono {f g : Nat → Int} : ∀ {n : Nat}, (∀ i, i < n → f i ≤ g i) → sm f n ≤ sm g n
  | 0, _ => Int.le_refl _
  | n + 1, h => by
    have a := sm_mono (f := f) (g := g) (n := n) (fun i hi => h i (by omega))
    have b := h n (by omega)
    show sm f n + f n ≤ sm g n + g n
    omega
/-- One term is another one. -/
theorem sm_one {f g : Nat → Int} {c : Nat} : ∀ {n : Nat}, (∀ i, i < n → i ≠ c → g i = f i) → sm g n = sm f n + (if c < n then g c - f c else 0)
  | 0, _ => by simp [sm]
  | n + 1, h => by
    have a := sm_one (f := f) (g := g) (c := c) (n := n) (fun i hi => h i (by omega))
    show sm g n + g n = sm f n + f n + _
    rw [a]
    by_cases h1 : n = c
    · subst h1
      rw [if_neg (Nat.lt_irrefl _), if_pos (Nat.lt_succ_self _)]; omega
    · rw [h n (by omega) h1]
      by_cases h2 : c < n
      · rw [if_pos h2, if_pos (by omega)]; omega
      · rw [if_neg h2, if_neg (by omega)]; omega

theorem sm_swp (q : Nat → Int) (R : Nat → Nat) {j : Nat} : ∀ {n : Nat}, j + 1 < n → sm (fun p => q (swp R (j + 1) p)) n = sm (fun p => q (R p)) n
  | 0, h => by omega
  | n + 1, h => by
    show sm (fun p => q (swp R (j + 1) p)) n + q (swp R (j + 1) n) = sm (fun p => q (R p)) n + q (R n)
    rcases Nat.lt_or_ge (j + 1) n with h1 | h1
    · rw [sm_swp q R h1, swp_far R (by omega) (by omega)]
    · obtain rfl : n = j + 1 := by omega
      rw [swp_hi]
      show sm (fun p => q (swp R (j + 1) p)) j + q (swp R (j + 1) j) + _ = sm (fun p => q (R p)) j + q (R j) + _
      rw [swp_lo, sm_congr (f := fun p => q (swp R (j + 1) p)) (g := fun p => q (R p)) (k := j) (fun b hb => by rw [swp_far R (by omega) (by omega)])]
      omega
theorem insI_sm (q : Nat → Int) (lt : Nat → Nat → Bool) {n : Nat} : ∀ (j : Nat) (R : Nat → Nat), j < n → sm (fun p => q (insI lt j R p)) n = sm (fun p => q (R p)) n
  | 0, _, _ => rfl
  | j + 1, R, h => by
    rw [insI_succ]
    split
    · rw [insI_sm q lt j _ (by omega), sm_swp q R h]
    · rfl
theorem insO_sm (q : Nat → Int) (lt : Nat → Nat → Bool) {n : Nat} : ∀ (m i : Nat) (R : Nat → Nat), m + i = n → sm (fun p => q (insO lt m i R p)) n = sm (fun p => q (R p)) n
  | 0, _, _, _ => rfl
  | m + 1, i, R, h => by
    show sm (fun p => q (insO lt m (i + 1) (insI lt i R) p)) n = _
    rw [insO_sm q lt m (i + 1) _ (by omega), insI_sm q lt i R (by omega)]

/-- The row of n outcomes. -/
def rowN (f g : Nat → Int) (n : Nat) : Nat → Nat := insO (fun i j => decide (cmpO f g i j < 0)) (n - 1) 1 id
/-- A sum along the row. -/
theorem sm_row (f g q : Nat → Int) {n : Nat} (hn : 0 < n) : sm (fun p => q (rowN f g n p)) n = sm q n := insO_sm q _ (n - 1) 1 id (by omega)

/-- A set as bits. -/
def setN (R : Nat → Nat) : Nat → Nat
  | 0 => 0
  | k + 1 => setN R k ||| (1 <<< R k)
def inN (R : Nat → Nat) (k a : Nat) : Bool := (setN R k).testBit a
theorem inN_succ (R : Nat → Nat) (k a : Nat) : inN R (k + 1) a = (inN R k a || decide (a = R k)) := by
  unfold inN
  show (setN R k ||| (1 <<< R k)).testBit a = _
  rw [Nat.testBit_or, Nat.testBit_shiftLeft]
  congr 1
  by_cases h : a = R k
  · subst h; simp
  · by_cases h1 : R k ≤ a
    · have : a - R k ≠ 0 := by omega
      simp [h]
      intro _
      exact Bool.eq_false_iff.2 (fun e => this (Nat.testBit_one_eq_true_iff_self_eq_zero.1 e))
    · simp [h, h1]
theorem inN_not {n : Nat} {R : Nat → Nat} (hi : Inj n R) {c : Nat} (hc : c < n) : ∀ {k : Nat}, k ≤ c → inN R k (R c) = false
  | 0, _ => by simp [inN, setN]
  | k + 1, h => by
    rw [inN_succ, inN_not hi hc (by omega)]
    simp
    intro e
    have := hi c k hc (by omega) e
    omega
/-- What the first k of a row hold. -/
theorem sm_set {n : Nat} {R : Nat → Nat} (hi : Inj n R) (hb : ∀ p, p < n → R p < n) (f : Nat → Int) : ∀ {k : Nat}, k ≤ n → sm (fun a => if inN R k a then f a else 0) n = sm (fun p => f (R p)) k
  | 0, _ => by
    have : sm (fun a => if inN R 0 a then f a else 0) n = sm (fun _ => 0 * 0) n := sm_congr fun i _ => by simp [inN, setN]
    rw [this, sm_mul 0 (fun _ => 0) n]; simp [sm]
  | k + 1, h => by
    have a := sm_set hi hb f (k := k) (by omega)
    have b := sm_one (f := fun a => if inN R k a then f a else 0) (g := fun a => if inN R (k + 1) a then f a else 0) (c := R k) (n := n) (fun i _ hne => by
      show (if inN R (k + 1) i = true then f i else 0) = if inN R k i = true then f i else 0
      rw [inN_succ]; simp [hne])
    rw [b, a, if_pos (hb k (by omega))]
    show _ + ((if inN R (k + 1) (R k) = true then f (R k) else 0) - (if inN R k (R k) = true then f (R k) else 0)) = sm (fun p => f (R p)) k + f (R k)
    rw [inN_succ, inN_not hi (by omega : k < n) (Nat.le_refl k)]
    simp

end Go.Proofs.YtohcnicadbpbbaaDoor
