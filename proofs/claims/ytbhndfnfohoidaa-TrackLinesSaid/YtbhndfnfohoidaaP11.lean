/- All points lie between the line through the outer ones and the one in the middle; all points let the line through the middle of two be as flat as it is: the plain law. -/
import Derived.Test.YtbhndfnfohoidaaP10
namespace Go.Proofs.Ytbhndfnfohoidaa

theorem ab_le {x m : Int} : ab x ≤ m ↔ -m ≤ x ∧ x ≤ m := by unfold ab; omega
theorem div_le {x m d : Int} (hd : 0 < d) (h : x * d ≤ m * d) : x ≤ m := Int.le_of_mul_le_mul_right h hd

/-- The heights above the line through two points change what three tell by what they are. -/
theorem dt_h (X Y : Nat → Int) (a c i j k : Nat) : (X c - X a) * dt X Y i j k = dt X Y a j c * (X k - X i) - dt X Y a i c * (X k - X j) - dt X Y a k c * (X j - X i) := by unfold dt; grind
theorem dt_at (X Y : Nat → Int) (a c : Nat) : dt X Y a a c = 0 ∧ dt X Y a c c = 0 := by unfold dt; constructor <;> grind

theorem tri_raw {n : Nat} {X Y : Nat → Int} {m d : Int} (hd : 0 < d) (T : Top n X Y m (2 * d)) {i j k : Nat} (hi : i < n) (hj : j < n) (hk : k < n) (h1 : X i < X j) (h2 : X j < X k) : -(m * (X k - X i)) ≤ d * dt X Y i j k ∧ d * dt X Y i j k ≤ m * (X k - X i) := by
  have h := T.tri i j k hi hj hk h1 h2
  have e : ab (dt X Y i j k) * d ≤ m * (X k - X i) := by
    have : ab (dt X Y i j k) * (2 * d) = 2 * (ab (dt X Y i j k) * d) := by grind
    have : m * (2 * (X k - X i)) = 2 * (m * (X k - X i)) := by grind
    omega
  rw [← ab_le, ab_mul]
  have : ab d = d := by unfold ab; omega
  rw [this, Int.mul_comm]
  exact e
theorem two_raw {n : Nat} {X Y : Nat → Int} {m d : Int} (hd : 0 < d) (T : Top n X Y m (2 * d)) {i k : Nat} (hi : i < n) (hk : k < n) (h : X i = X k) : -m ≤ (Y i - Y k) * d ∧ (Y i - Y k) * d ≤ m := by
  have h := T.two i k hi hk h
  have e : ab (Y i - Y k) * d ≤ m := by
    have : ab (Y i - Y k) * (2 * d) = 2 * (ab (Y i - Y k) * d) := by grind
    omega
  rw [← ab_le, ab_mul]
  have : ab d = d := by unfold ab; omega
  rw [this]
  exact e

/-- Above the line through the outer ones, and not above the one in the middle. -/
theorem strip {n : Nat} {X Y : Nat → Int} {a b c : Nat} (ha : a < n) (hb : b < n) (hc : c < n) (h1 : X a < X b) (h2 : X b < X c) (T : Top n X Y (dt X Y a b c) (2 * (X c - X a))) {q : Nat} (hq : q < n) : 0 ≤ dt X Y a q c ∧ dt X Y a q c ≤ dt X Y a b c := by
  have hd : 0 < X c - X a := by omega
  have za := (dt_at X Y a c).1
  have zc := (dt_at X Y a c).2
  have tr := fun {i j k : Nat} (hi : i < n) (hj : j < n) (hk : k < n) (h1 : X i < X j) (h2 : X j < X k) => (dt_h X Y a c i j k) ▸ tri_raw hd T hi hj hk h1 h2
  have pr := fun {i k : Nat} (hi : i < n) (hk : k < n) (h : X i = X k) => two_raw hd T hi hk h
  have same : ∀ i k, X i = X k → dt X Y a i c - dt X Y a k c = (Y i - Y k) * (X c - X a) := fun i k h => by unfold dt; rw [h]; grind
  generalize hm : dt X Y a b c = m at *
  generalize hh : dt X Y a q c = h at *
  constructor
  · refine Int.not_lt.1 fun hn => ?_
    rcases Int.lt_trichotomy (X q) (X b) with k | k | k
    · have := (tr hq hb hc k h2).2
      rw [hm, hh, zc] at this
      have p1 : 0 < (-h) * (X c - X b) := Int.mul_pos (by omega) (by omega)
      rw [Int.neg_mul] at p1
      omega
    · have s := same q b k
      have := (pr hq hb k).1
      rw [← s, hh, hm] at this
      omega
    · have := (tr ha hb hq h1 k).2
      rw [hm, hh, za] at this
      have p1 : 0 < (-h) * (X b - X a) := Int.mul_pos (by omega) (by omega)
      rw [Int.neg_mul] at p1
      omega
  · refine Int.not_lt.1 fun hn => ?_
    rcases Int.lt_trichotomy (X q) (X a) with k | k | k
    · have := (tr hq ha hb k h1).1
      rw [hm, hh, za] at this
      have p1 : 0 < (h - m) * (X b - X a) := Int.mul_pos (by omega) (by omega)
      have e1 : (h - m) * (X b - X a) = h * (X b - X a) - m * (X b - X q) + m * (X a - X q) := by grind
      omega
    · have s := same q a k
      have := (pr hq ha k).2
      rw [← s, hh, za] at this
      omega
    · rcases Int.lt_trichotomy (X q) (X c) with k2 | k2 | k2
      · have := (tr ha hq hc k k2).2
        rw [hh, za, zc] at this
        have := div_le (x := h) (m := m) hd (by omega)
        omega
      · have s := same q c k2
        have := (pr hq hc k2).2
        rw [← s, hh, zc] at this
        omega
      · have := (tr hb hc hq h2 k2).1
        rw [hm, hh, zc] at this
        have p1 : 0 < (h - m) * (X c - X b) := Int.mul_pos (by omega) (by omega)
        have e1 : (h - m) * (X c - X b) = h * (X c - X b) - m * (X q - X b) + m * (X q - X c) := by grind
        omega
end Go.Proofs.Ytbhndfnfohoidaa
