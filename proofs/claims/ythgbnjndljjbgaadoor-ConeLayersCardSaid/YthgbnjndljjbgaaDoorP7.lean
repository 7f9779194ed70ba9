/- What is before a hit, and before what there is none: the plain laws. -/
import Derived.Test.YthgbnjndljjbgaaDoorP6
namespace Go.Firn

/-- What is before a hit, as a list. -/
def pastL (n : Nat) (P T : Nat → Int) (a : Nat) : List Nat := els (fun i => bf P T i a) n
theorem pastL_eq {n : Nat} (hn : n ≤ 14) (P T : Nat → Int) (a : Nat) : els (pastM n P T a).testBit 16 = pastL n P T a := by
  have h : pastM n P T a < 2 ^ n := mk_lt _ _
  rw [els_more (n := n) (m := 16) (fun i hi => bit_ge h hi) (by omega)]
  exact els_congr fun i hi => past_bit hi

/-- Of the hits that are left this one has none before it. -/
def frB (n : Nat) (P T : Nat → Int) (left : Nat → Bool) (a : Nat) : Bool := left a && (List.range n).all fun b => !(left b && bf P T b a)
def frJ (P T : Nat → Int) (left : Nat → Bool) (a k : Nat) : Bool := left a && (List.range k).all fun b => !(left b && bf P T b a)
theorem frJ_zero (P T : Nat → Int) (left : Nat → Bool) (a : Nat) : frJ P T left a 0 = left a := by simp [frJ]
theorem frJ_succ (P T : Nat → Int) (left : Nat → Bool) (a k : Nat) : frJ P T left a (k + 1) = (frJ P T left a k && !(left k && bf P T k a)) := by
  unfold frJ
  rw [List.range_succ, List.all_append]
  simp [Bool.and_assoc]
theorem frJ_end (n : Nat) (P T : Nat → Int) (left : Nat → Bool) (a : Nat) : frJ P T left a n = frB n P T left a := rfl
def firstL (n : Nat) (P T : Nat → Int) (left : Nat → Bool) : List Nat := els (frB n P T left) n
theorem frB_congr {n : Nat} {P T : Nat → Int} {l l' : Nat → Bool} (h : ∀ i, i < n → l i = l' i) {a : Nat} (ha : a < n) : frB n P T l a = frB n P T l' a := by
  unfold frB
  rw [h a ha]
  congr 1
  rw [Bool.eq_iff_iff, List.all_eq_true, List.all_eq_true]
  constructor
  · intro h1 b hb
    rw [← h b (by simpa using hb)]; exact h1 b hb
  · intro h1 b hb
    rw [h b (by simpa using hb)]; exact h1 b hb
theorem firstL_congr {n : Nat} {P T : Nat → Int} {l l' : Nat → Bool} (h : ∀ i, i < n → l i = l' i) : firstL n P T l = firstL n P T l' := els_congr fun _ hi => frB_congr h hi

/-- None of s is before i. -/
def freeAt (n : Nat) (P T : Nat → Int) (s i : Nat) : Bool := pastM n P T i &&& s == 0
theorem freeAt_eq {n : Nat} {P T : Nat → Int} {s i : Nat} : (s.testBit i && freeAt n P T s i) = frB n P T s.testBit i := by
  unfold freeAt frB
  congr 1
  rw [Bool.eq_iff_iff, beq_iff_eq, List.all_eq_true]
  constructor
  · intro h b hb
    have hb : b < n := by simpa using hb
    have : (pastM n P T i &&& s).testBit b = false := by rw [h]; simp
    rw [Nat.testBit_and, past_bit hb] at this
    rw [Bool.and_comm, this]; rfl
  · intro h
    refine Nat.eq_of_testBit_eq fun b => ?_
    rw [Nat.testBit_and, Nat.zero_testBit]
    by_cases hb : b < n
    · have := h b (by simpa using hb)
      rw [past_bit hb, Bool.and_comm]
      cases h1 : s.testBit b <;> cases h2 : bf P T b i <;> simp_all
    · rw [bit_ge (s := pastM n P T i) (mk_lt _ _) (by omega)]; rfl
/-- The hits of s before which there is none of it, as bits. -/
def freeM (n : Nat) (P T : Nat → Int) (s : Nat) : Nat := mk (frB n P T s.testBit) n
theorem freeM_lt (n : Nat) (P T : Nat → Int) (s : Nat) : freeM n P T s < 2 ^ n := mk_lt _ _
theorem freeM_list {n : Nat} (hn : n ≤ 14) (P T : Nat → Int) (s : Nat) : els (freeM n P T s).testBit 16 = firstL n P T s.testBit := by
  rw [els_more (n := n) (m := 16) (fun i hi => bit_ge (freeM_lt n P T s) hi) (by omega)]
  exact els_congr fun i hi => by
    unfold freeM
    rw [mk_bit]; simp [hi]
/-- What the loop over the members has found. -/
def FreeK (n : Nat) (P T : Nat → Int) (s : Nat) (L : List Nat) (k out : Nat) : Prop := ∀ i, out.testBit i = ((L.take k).contains i && freeAt n P T s i)
theorem FreeK.zero (n : Nat) (P T : Nat → Int) (s : Nat) (L : List Nat) : FreeK n P T s L 0 0 := fun i => by simp
theorem take_succ_contains {L : List Nat} {k : Nat} (hk : k < L.length) (i : Nat) : (L.take (k + 1)).contains i = ((L.take k).contains i || i == L.getD k 0) := by
  have e : L.take (k + 1) = L.take k ++ [L.getD k 0] := by
    rw [List.take_add_one, List.getElem?_eq_getElem hk, List.getD, List.getElem?_eq_getElem hk]
    rfl
  rw [e, List.contains_append, Bool.eq_iff_iff]
  simp
theorem FreeK.yes {n : Nat} {P T : Nat → Int} {s : Nat} {L : List Nat} {k out : Nat} (h : FreeK n P T s L k out) (hk : k < L.length) (hf : freeAt n P T s (L.getD k 0) = true) : FreeK n P T s L (k + 1) (out ||| 2 ^ L.getD k 0) := fun i => by
  rw [Nat.testBit_or, h i, take_succ_contains hk, Nat.testBit_two_pow]
  by_cases e : L.getD k 0 = i
  · subst e; rw [hf]; simp
  · have e1 : (i == L.getD k 0) = false := by simp only [beq_eq_false_iff_ne]; exact fun x => e x.symm
    have e2 : decide (L.getD k 0 = i) = false := decide_eq_false e
    rw [e1, e2]; simp
theorem FreeK.no {n : Nat} {P T : Nat → Int} {s : Nat} {L : List Nat} {k out : Nat} (h : FreeK n P T s L k out) (hk : k < L.length) (hf : freeAt n P T s (L.getD k 0) = false) : FreeK n P T s L (k + 1) out := fun i => by
  rw [h i, take_succ_contains hk]
  by_cases e : L.getD k 0 = i
  · subst e; rw [hf]; simp
  · have e1 : (i == L.getD k 0) = false := by simp only [beq_eq_false_iff_ne]; exact fun x => e x.symm
    rw [e1]; simp
theorem FreeK.fin {n : Nat} {P T : Nat → Int} {s out : Nat} (hs : s < 2 ^ n) (hn : n ≤ 16) (h : FreeK n P T s (els s.testBit 16) (els s.testBit 16).length out) : out = freeM n P T s := by
  refine Nat.eq_of_testBit_eq fun i => ?_
  rw [h i, List.take_length, freeM, mk_bit, ← freeAt_eq]
  have : (els s.testBit 16).contains i = (decide (i < n) && s.testBit i) := by
    rw [Bool.eq_iff_iff]
    simp only [List.contains_iff_mem, els_mem, Bool.and_eq_true, decide_eq_true_eq]
    constructor
    · rintro ⟨h1, h2⟩
      refine ⟨?_, h2⟩
      rcases Nat.lt_or_ge i n with h | h
      · exact h
      · rw [bit_ge hs h] at h2; cases h2
    · rintro ⟨h1, h2⟩; exact ⟨by omega, h2⟩
  rw [this, Bool.and_assoc]

/-- What Before, Past and First give. -/
def befG (n : Nat) (P T : Nat → Int) (x y : Int) : Bool := vH n P T && inH n x && inH n y && bf P T x.toNat y.toNat
def errB (n : Nat) (P T : Nat → Int) (x y : Int) : Int := if vH n P T = true then (if inH n x = true then (if inH n y = true then 0 else 2) else 2) else 20
def pasG (n : Nat) (P T : Nat → Int) (x : Int) : List Nat := if vH n P T = true then (if inH n x = true then pastL n P T x.toNat else []) else []
def errP (n : Nat) (P T : Nat → Int) (x : Int) : Int := if vH n P T = true then (if inH n x = true then 0 else 2) else 20
def firG (n : Nat) (P T : Nat → Int) : List Nat := if vH n P T = true then firstL n P T (fun _ => true) else []

end Go.Firn
