/- Which lists are layers, and chains: the plain laws. -/
import Derived.Test.YthgbnjndljjbgaaDoorP5
namespace Go.Firn

/-- A number is the index of a hit. -/
def inH (n : Nat) (x : Int) : Bool := decide (0 ≤ x) && decide (x ≤ (n : Int) - 1)
theorem inH_nat {n : Nat} {x : Int} (h : inH n x = true) : ∃ i : Nat, i < n ∧ x = i := by
  unfold inH at h
  simp only [Bool.and_eq_true, decide_eq_true_eq] at h
  exact ⟨x.toNat, by omega, by omega⟩
/-- The number at k fits a layer's numbers in front of it. -/
def layAt (n : Nat) (P T : Nat → Int) (l : Nat → Int) (k : Nat) : Bool :=
  inH n (l k) && !(decide (0 < k) && decide (l k ≤ l (k - 1))) && (List.range k).all fun j => !cmpd P T (l k).toNat (l j).toNat
def layK (n : Nat) (P T : Nat → Int) (l : Nat → Int) (k : Nat) : Bool := (List.range k).all (layAt n P T l)
/-- The list is a layer. -/
def layB (n : Nat) (P T : Nat → Int) (m : Nat) (l : Nat → Int) : Bool := layK n P T l m && decide (1 ≤ m) && decide (m ≤ 50)

theorem layK_zero (n : Nat) (P T : Nat → Int) (l : Nat → Int) : layK n P T l 0 = true := rfl
theorem layK_succ (n : Nat) (P T : Nat → Int) (l : Nat → Int) (k : Nat) : layK n P T l (k + 1) = (layK n P T l k && layAt n P T l k) := by
  unfold layK
  rw [List.range_succ, List.all_append]
  simp
theorem layK_at {n : Nat} {P T : Nat → Int} {l : Nat → Int} {k j : Nat} (h : layK n P T l k = true) (hj : j < k) : ∃ i : Nat, i < n ∧ l j = i := by
  unfold layK at h
  rw [List.all_eq_true] at h
  have := h j (by simpa using hj)
  unfold layAt at this
  simp only [Bool.and_eq_true] at this
  exact inH_nat this.1.1
theorem layB_stop {n : Nat} {P T : Nat → Int} {l : Nat → Int} {k m : Nat} (hk : k < m) (h : layAt n P T l k = false) : layB n P T m l = false := by
  have : layK n P T l m = false := by
    unfold layK
    rw [List.all_eq_false]
    exact ⟨k, by simpa using hk, by rw [h]; simp⟩
  unfold layB
  rw [this]; rfl
/-- The hits in front of k, of the first j, do not know of it. -/
def layJ (P T : Nat → Int) (l : Nat → Int) (k j : Nat) : Bool := (List.range j).all fun i => !cmpd P T (l k).toNat (l i).toNat
theorem layJ_zero (P T : Nat → Int) (l : Nat → Int) (k : Nat) : layJ P T l k 0 = true := rfl
theorem layJ_succ (P T : Nat → Int) (l : Nat → Int) (k j : Nat) : layJ P T l k (j + 1) = (layJ P T l k j && !cmpd P T (l k).toNat (l j).toNat) := by
  unfold layJ
  rw [List.range_succ, List.all_append]
  simp
theorem layAt_eq (n : Nat) (P T : Nat → Int) (l : Nat → Int) (k : Nat) : layAt n P T l k = (inH n (l k) && !(decide (0 < k) && decide (l k ≤ l (k - 1))) && layJ P T l k k) := rfl
theorem layAt_know {n : Nat} {P T : Nat → Int} {l : Nat → Int} {k j : Nat} (hj : j < k) (h : cmpd P T (l k).toNat (l j).toNat = true) : layAt n P T l k = false := by
  rw [layAt_eq]
  have : layJ P T l k k = false := by
    unfold layJ
    rw [List.all_eq_false]
    exact ⟨j, by simpa using hj, by rw [h]; simp⟩
  rw [this]
  simp
theorem know_bit {n : Nat} {P T : Nat → Int} {i j : Nat} (hj : j < n) : (pastM n P T i ||| futM n P T i).testBit j = cmpd P T i j := by
  unfold pastM futM cmpd
  rw [Nat.testBit_or, mk_bit, mk_bit]
  simp [hj, Bool.or_comm]
theorem past_bit {n : Nat} {P T : Nat → Int} {i j : Nat} (hj : j < n) : (pastM n P T i).testBit j = bf P T j i := by
  unfold pastM
  rw [mk_bit]
  simp [hj]

end Go.Firn
