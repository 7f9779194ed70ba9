/- Witnesses, and what they tell: the plain law. -/
import Derived.Test.YtbhndfnfohoidaaP2
namespace Go.Proofs.Ytbhndfnfohoidaa

/-- Whether one of the first k numbers is x. -/
def anyI (l : Nat → Int) (k : Nat) (x : Int) : Bool := (List.range k).any fun i => l i == x
theorem anyI_succ (l : Nat → Int) (k : Nat) (x : Int) : anyI l (k + 1) x = (anyI l k x || l k == x) := by unfold anyI; rw [List.range_succ, List.any_append]; simp
theorem anyI_stop {l : Nat → Int} {k n : Nat} {x : Int} (hk : k < n) (h : l k = x) : anyI l n x = true := by unfold anyI; rw [List.any_eq_true]; exact ⟨k, List.mem_range.2 hk, by simp [h]⟩
/-- A number of a list that is an index of one of n points and did not come before. -/
def goodAt (n : Nat) (l : Nat → Int) (j : Nat) : Bool := decide (0 ≤ l j) && decide (l j < n) && !anyI l j (l j)
def goodW (n : Nat) (l : Nat → Int) (m : Nat) : Bool := (List.range m).all (goodAt n l)
theorem goodW_succ (n : Nat) (l : Nat → Int) (m : Nat) : goodW n l (m + 1) = (goodW n l m && goodAt n l m) := by unfold goodW; rw [List.range_succ, List.all_append]; simp
theorem goodW_zero (n : Nat) (l : Nat → Int) : goodW n l 0 = true := rfl
theorem goodW_stop {n : Nat} {l : Nat → Int} {k m : Nat} (hk : k < m) (h : goodAt n l k = false) : goodW n l m = false := by
  rw [Bool.eq_false_iff]
  intro hv
  unfold goodW at hv
  rw [List.all_eq_true] at hv
  have := hv k (List.mem_range.2 hk)
  rw [h] at this; cases this
theorem goodW_at {n : Nat} {l : Nat → Int} {k m : Nat} (h : goodW n l m = true) (hk : k < m) : ∃ i : Nat, i < n ∧ l k = i := by
  unfold goodW at h
  rw [List.all_eq_true] at h
  have := h k (List.mem_range.2 hk)
  unfold goodAt at this
  simp only [Bool.and_eq_true, decide_eq_true_eq] at this
  exact ⟨(l k).toNat, by omega, by omega⟩

/-- The point at a number of the list. -/
def at_ (l : Nat → Int) (j : Nat) : Nat := (l j).toNat
/-- Whether a list is a witness. -/
def witB (n : Nat) (X : Nat → Int) (m : Nat) (l : Nat → Int) : Bool :=
  goodW n l m && ((decide (m = 2) && X (at_ l 0) == X (at_ l 1)) || (decide (m = 3) && (decide (X (at_ l 0) < X (at_ l 1)) && decide (X (at_ l 1) < X (at_ l 2)))))
/-- Of three points the rest of the one in the middle, times the D of the line through the others, and that D. -/
def t3r (X Y : Nat → Int) (a b c : Nat) : Int := rs (X b) (Y b) (thA (X a) (Y a) (X c) (Y c)) (thB (X a) (Y a) (X c) (Y c)) (thD (X a) (Y a) (X c) (Y c))
def t3d (X Y : Nat → Int) (a c : Nat) : Int := thD (X a) (Y a) (X c) (Y c)
def t2N (Y : Nat → Int) (a b : Nat) : Int := rN (ab (Y a - Y b)) 2
def t2D (Y : Nat → Int) (a b : Nat) : Int := rD (ab (Y a - Y b)) 2
def t3N (X Y : Nat → Int) (a b c : Nat) : Int := rN (ab (t3r X Y a b c)) (2 * t3d X Y a c)
def t3D (X Y : Nat → Int) (a b c : Nat) : Int := rD (ab (t3r X Y a b c)) (2 * t3d X Y a c)
/-- What a witness tells. -/
def tlN (X Y : Nat → Int) (m : Nat) (l : Nat → Int) : Int := if m = 2 then t2N Y (at_ l 0) (at_ l 1) else t3N X Y (at_ l 0) (at_ l 1) (at_ l 2)
def tlD (X Y : Nat → Int) (m : Nat) (l : Nat → Int) : Int := if m = 2 then t2D Y (at_ l 0) (at_ l 1) else t3D X Y (at_ l 0) (at_ l 1) (at_ l 2)

theorem t3r_bd {X Y : Nat → Int} {a b c : Nat} (ha : InP (X a) (Y a)) (hb : InP (X b) (Y b)) (hc : InP (X c) (Y c)) (h : X a ≠ X c) : (-800000 ≤ t3r X Y a b c ∧ t3r X Y a b c ≤ 800000) ∧ 0 < t3d X Y a c ∧ t3d X Y a c ≤ 200 := by
  obtain ⟨⟨p1, p2⟩, ⟨p3, p4⟩, p5, p6⟩ := th_bd ha hc h
  obtain ⟨⟨b1, b2⟩, b3, b4⟩ := hb
  have m1 := mul_bd (a := Y b) (b := thD (X a) (Y a) (X c) (Y c)) (A := 1000) (B := 200) (by omega) (by omega) (by omega) (by omega)
  have m2 := mul_bd (a := thA (X a) (Y a) (X c) (Y c)) (b := X b) (A := 2000) (B := 100) (by omega) (by omega) (by omega) (by omega)
  unfold t3r t3d rs
  omega

end Go.Proofs.Ytbhndfnfohoidaa
