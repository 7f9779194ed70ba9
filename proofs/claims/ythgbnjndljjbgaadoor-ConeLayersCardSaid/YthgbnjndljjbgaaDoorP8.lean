/- Hits that are moved, and turned: the plain laws. -/
import Derived.Test.YthgbnjndljjbgaaDoorP7
namespace Go.Firn

def inR (x : Int) : Bool := decide (-1000 ≤ x) && decide (x ≤ 1000)
theorem inR_iff {x : Int} : inR x = true ↔ -1000 ≤ x ∧ x ≤ 1000 := by unfold inR; simp
/-- All hits stay in reach. -/
def okMK (P T : Nat → Int) (p t : Int) (k : Nat) : Bool := (List.range k).all fun i => inR (P i + p) && inR (T i + t)
theorem okMK_zero (P T : Nat → Int) (p t : Int) : okMK P T p t 0 = true := rfl
theorem okMK_succ (P T : Nat → Int) (p t : Int) (k : Nat) : okMK P T p t (k + 1) = (okMK P T p t k && (inR (P k + p) && inR (T k + t))) := by
  unfold okMK
  rw [List.range_succ, List.all_append]
  simp
theorem okMK_stop {P T : Nat → Int} {p t : Int} {k n : Nat} (hk : k < n) (h : (inR (P k + p) && inR (T k + t)) = false) : okMK P T p t n = false := by
  unfold okMK
  rw [List.all_eq_false]
  exact ⟨k, by simpa using hk, by rw [h]; simp⟩
theorem okMK_at {P T : Nat → Int} {p t : Int} {k n : Nat} (h : okMK P T p t n = true) (hk : k < n) : (-1000 ≤ P k + p ∧ P k + p ≤ 1000) ∧ -1000 ≤ T k + t ∧ T k + t ≤ 1000 := by
  unfold okMK at h
  rw [List.all_eq_true] at h
  have := h k (by simpa using hk)
  rw [Bool.and_eq_true, inR_iff, inR_iff] at this
  exact this
/-- Moved valid hits are valid just if all stay in reach. -/
theorem vH_moved {n : Nat} {P T : Nat → Int} (V : VH n P T) (p t : Int) : vH n (fun i => P i + p) (fun i => T i + t) = okMK P T p t n := by
  rw [Bool.eq_iff_iff, vH_iff]
  constructor
  · intro h
    unfold okMK
    rw [List.all_eq_true]
    intro i hi
    have := h.ok i (by simpa using hi)
    rw [Bool.and_eq_true, inR_iff, inR_iff]
    omega
  · intro h
    refine ⟨V.pos, V.few, fun i hi => by have := okMK_at h hi; omega, fun i k hi hk hp ht => V.apart i k hi hk (by omega) (by omega)⟩
theorem okMK_far {n : Nat} {P T : Nat → Int} (V : VH n P T) {p t : Int} (h : (decide (-2000 ≤ p) && decide (p ≤ 2000)) = false ∨ (decide (-2000 ≤ t) && decide (t ≤ 2000)) = false) : okMK P T p t n = false := by
  cases hk : okMK P T p t n
  · rfl
  · have h1 := okMK_at hk (k := 0) V.pos
    have h2 := V.ok 0 V.pos
    rcases h with h | h <;> simp at h <;> omega
/-- Turned valid hits are valid. -/
theorem vH_turned {n : Nat} {P T : Nat → Int} (V : VH n P T) : VH n P (fun i => -T i) :=
  ⟨V.pos, V.few, fun i hi => by have := V.ok i hi; omega, fun i k hi hk hp ht => V.apart i k hi hk hp (by omega)⟩

/-- What Moved gives: how many hits, and the error. -/
def mvN (n : Nat) (P T : Nat → Int) (p t : Int) : Nat := if vH n P T = true then (if okMK P T p t n = true then n else 0) else 0
def errM (n : Nat) (P T : Nat → Int) (p t : Int) : Int := if vH n P T = true then (if okMK P T p t n = true then 0 else 2) else 20
def tuN (n : Nat) (P T : Nat → Int) : Nat := if vH n P T = true then n else 0

end Go.Firn
