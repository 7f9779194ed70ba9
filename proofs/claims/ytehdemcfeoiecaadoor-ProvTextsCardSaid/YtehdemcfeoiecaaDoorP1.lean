/- Which products and sums are valid, and their values and costs: what the program and the reference tell. -/
import Derived.Test.YtehdemcfeoiecaaDoorSum
import Derived.Lib.Slices
namespace Go.Proofs.YtehdemcfeoiecaaDoor
open Go.Firn

def btw (a n b : Int) : Bool := decide (a ≤ n) && decide (n ≤ b)

/-- A byte of a text of tokens. -/
def tkAt (s : ByteArray) (i : Nat) : Bool := decide (97 ≤ bt s i) && decide (bt s i ≤ 104) && (decide (i = 0) || decide (bt s (i - 1) ≤ bt s i))
def tkK (s : ByteArray) (k : Nat) : Bool := (List.range k).all (tkAt s)
theorem tkK_zero (s : ByteArray) : tkK s 0 = true := rfl
theorem tkK_succ (s : ByteArray) (k : Nat) : tkK s (k + 1) = (tkK s k && tkAt s k) := by
  unfold tkK
  rw [List.range_succ, List.all_append]
  simp
theorem tkK_stop {s : ByteArray} {k n : Nat} (hk : k < n) (h : tkAt s k = false) : tkK s n = false := by
  unfold tkK
  rw [List.all_eq_false]
  exact ⟨k, by simpa using hk, by rw [h]; simp⟩
theorem tkK_at {s : ByteArray} {k n : Nat} (h : tkK s n = true) (hk : k < n) : tkAt s k = true := by
  unfold tkK at h
  rw [List.all_eq_true] at h
  exact h k (by simpa using hk)
/-- Tokens in order, not too many. -/
def isTk (s : ByteArray) : Bool := tkK s s.size && decide (s.size ≤ 12)
def isPr (s : ByteArray) (m : Int) : Bool := isTk s && btw 1 m 100000
/-- One text is less than another one. -/
def bLt (a b : ByteArray) : Bool := Op.bytesLess a.toList b.toList
theorem bLt_iff {a b : ByteArray} : bLt a b = true ↔ a.toList < b.toList := by unfold bLt; rw [Go.Proofs.bytesLess_eq]; simp

def vsAt (f : Nat → ByteArray) (g : Nat → Int) (i : Nat) : Bool := isPr (f i) (g i) && (decide (i = 0) || bLt (f (i - 1)) (f i))
def vsK (f : Nat → ByteArray) (g : Nat → Int) (k : Nat) : Bool := (List.range k).all (vsAt f g)
theorem vsK_zero (f : Nat → ByteArray) (g : Nat → Int) : vsK f g 0 = true := rfl
theorem vsK_succ (f : Nat → ByteArray) (g : Nat → Int) (k : Nat) : vsK f g (k + 1) = (vsK f g k && vsAt f g k) := by
  unfold vsK
  rw [List.range_succ, List.all_append]
  simp
theorem vsK_stop {f : Nat → ByteArray} {g : Nat → Int} {k n : Nat} (hk : k < n) (h : vsAt f g k = false) : vsK f g n = false := by
  unfold vsK
  rw [List.all_eq_false]
  exact ⟨k, by simpa using hk, by rw [h]; simp⟩
theorem vsK_at {f : Nat → ByteArray} {g : Nat → Int} {k n : Nat} (h : vsK f g n = true) (hk : k < n) : vsAt f g k = true := by
  unfold vsK at h
  rw [List.all_eq_true] at h
  exact h k (by simpa using hk)
/-- The list is a sum. -/
def vS (f : Nat → ByteArray) (g : Nat → Int) (n : Nat) : Bool := vsK f g n && decide (n ≤ 40)

/-- Of two texts one is less, or they are the same. -/
theorem bLt_cases (a b : ByteArray) : (bLt a b = true ∧ bLt b a = false ∧ (b.toList == a.toList) = false) ∨ (bLt a b = false ∧ bLt b a = false ∧ (b.toList == a.toList) = true) ∨ (bLt a b = false ∧ bLt b a = true ∧ (b.toList == a.toList) = false) := by
  unfold bLt
  rw [Go.Proofs.bytesLess_eq, Go.Proofs.bytesLess_eq]
  generalize a.toList = x
  generalize b.toList = y
  by_cases h1 : x < y
  · have h2 : ¬ y < x := fun h => List.lt_irrefl _ (List.lt_trans h1 h)
    have h3 : y ≠ x := fun e => by subst e; exact List.lt_irrefl _ h1
    left; simp [h1, h2, h3]
  · by_cases h2 : y < x
    · have h3 : y ≠ x := fun e => by subst e; exact List.lt_irrefl _ h2
      right; right; simp [h1, h2, h3]
    · have h3 : y = x := List.le_antisymm (List.not_lt.1 h1) (List.not_lt.1 h2)
      right; left; simp [h3, List.lt_irrefl]

/-- Numbers, one for each token. -/
def nmK (l : Nat → Int) (B : Int) (k : Nat) : Bool := (List.range k).all fun i => btw 0 (l i) B
theorem nmK_zero (l : Nat → Int) (B : Int) : nmK l B 0 = true := rfl
theorem nmK_succ (l : Nat → Int) (B : Int) (k : Nat) : nmK l B (k + 1) = (nmK l B k && btw 0 (l k) B) := by
  unfold nmK
  rw [List.range_succ, List.all_append]
  simp
theorem nmK_stop {l : Nat → Int} {B : Int} {k n : Nat} (hk : k < n) (h : btw 0 (l k) B = false) : nmK l B n = false := by
  unfold nmK
  rw [List.all_eq_false]
  exact ⟨k, by simpa using hk, by rw [h]; simp⟩
theorem nmK_at {l : Nat → Int} {B : Int} {k n : Nat} (h : nmK l B n = true) (hk : k < n) : 0 ≤ l k ∧ l k ≤ B := by
  unfold nmK at h
  rw [List.all_eq_true] at h
  have := h k (by simpa using hk)
  simpa [btw] using this
def nmB (l : Nat → Int) (n : Nat) (B : Int) : Bool := nmK l B n && decide (n = 8)
theorem nmB_at {l : Nat → Int} {n : Nat} {B : Int} (h : nmB l n B = true) : n = 8 ∧ ∀ i, i < 8 → 0 ≤ l i ∧ l i ≤ B := by
  unfold nmB at h
  simp only [Bool.and_eq_true, decide_eq_true_eq] at h
  obtain ⟨h1, rfl⟩ := h
  exact ⟨rfl, fun i hi => nmK_at h1 hi⟩

/-- The value of a product so far. -/
def prd (l : Nat → Int) (s : ByteArray) (m : Int) : Nat → Int
  | 0 => m
  | k + 1 => prd l s m k * l (bt s k - 97)
def vlS (l : Nat → Int) (f : Nat → ByteArray) (g : Nat → Int) : Nat → Int
  | 0 => 0
  | k + 1 => vlS l f g k + prd l (f k) (g k) (f k).size
theorem prd_bd {l : Nat → Int} {s : ByteArray} {m : Int} (hl : ∀ i, i < 8 → 0 ≤ l i ∧ l i ≤ 10) (hs : isTk s = true) (hm : 1 ≤ m ∧ m ≤ 100000) : ∀ k, k ≤ s.size → 0 ≤ prd l s m k ∧ prd l s m k ≤ 100000 * 10 ^ k
  | 0, _ => by simp [prd]; omega
  | k + 1, hk => by
    have ih := prd_bd hl hs hm k (by omega)
    unfold isTk at hs
    rw [Bool.and_eq_true] at hs
    have t := tkK_at hs.1 (show k < s.size by omega)
    unfold tkAt at t
    simp only [Bool.and_eq_true, decide_eq_true_eq] at t
    have b := hl (bt s k - 97) (by omega)
    show 0 ≤ prd l s m k * l (bt s k - 97) ∧ prd l s m k * l (bt s k - 97) ≤ 100000 * 10 ^ (k + 1)
    refine ⟨Int.mul_nonneg ih.1 b.1, ?_⟩
    have := Int.mul_le_mul ih.2 b.2 b.1 (by have : (0 : Int) ≤ 10 ^ k := Int.pow_nonneg (by decide); omega)
    rw [Int.pow_succ]
    omega
theorem prd_top {l : Nat → Int} {s : ByteArray} {m : Int} (hl : ∀ i, i < 8 → 0 ≤ l i ∧ l i ≤ 10) (hs : isTk s = true) (hm : 1 ≤ m ∧ m ≤ 100000) {k : Nat} (hk : k ≤ s.size) : 0 ≤ prd l s m k ∧ prd l s m k ≤ 100000000000000000 := by
  have h := prd_bd hl hs hm k hk
  have h12 : s.size ≤ 12 := by unfold isTk at hs; rw [Bool.and_eq_true] at hs; simpa using hs.2
  have : (10 : Int) ^ k ≤ 10 ^ 12 := by
    have := Nat.pow_le_pow_right (n := 10) (by decide) (show k ≤ 12 by omega)
    have e : ∀ j : Nat, (10 : Int) ^ j = ((10 ^ j : Nat) : Int) := fun j => by simp
    rw [e, e]
    omega
  have e2 : (10 : Int) ^ 12 = 1000000000000 := by decide
  omega
/-- What a sum that is valid has. -/
theorem vS_at {f : Nat → ByteArray} {g : Nat → Int} {n : Nat} (h : vS f g n = true) : n ≤ 40 ∧ ∀ i, i < n → isTk (f i) = true ∧ 1 ≤ g i ∧ g i ≤ 100000 := by
  unfold vS at h
  rw [Bool.and_eq_true] at h
  refine ⟨by simpa using h.2, fun i hi => ?_⟩
  have t := vsK_at h.1 hi
  unfold vsAt isPr at t
  rw [Bool.and_eq_true, Bool.and_eq_true] at t
  exact ⟨t.1.1, by simpa [btw] using t.1.2⟩
theorem isTk_at {s : ByteArray} (h : isTk s = true) : s.size ≤ 12 ∧ ∀ i, i < s.size → 97 ≤ bt s i ∧ bt s i ≤ 104 := by
  unfold isTk at h
  rw [Bool.and_eq_true] at h
  refine ⟨by simpa using h.2, fun i hi => ?_⟩
  have t := tkK_at h.1 hi
  unfold tkAt at t
  simp only [Bool.and_eq_true, decide_eq_true_eq] at t
  omega
theorem vlS_bd {l : Nat → Int} {f : Nat → ByteArray} {g : Nat → Int} {n : Nat} (hl : ∀ i, i < 8 → 0 ≤ l i ∧ l i ≤ 10) (h : vS f g n = true) : ∀ k, k ≤ n → 0 ≤ vlS l f g k ∧ vlS l f g k ≤ 100000000000000000 * k
  | 0, _ => by simp [vlS]
  | k + 1, hk => by
    have ih := vlS_bd hl h k (by omega)
    have a := (vS_at h).2 k (by omega)
    have b := prd_top hl a.1 a.2 (Nat.le_refl (f k).size)
    show 0 ≤ vlS l f g k + prd l (f k) (g k) (f k).size ∧ vlS l f g k + prd l (f k) (g k) (f k).size ≤ _
    omega

/-- The cost of a product so far. -/
def csm (l : Nat → Int) (s : ByteArray) : Nat → Int
  | 0 => 0
  | k + 1 => csm l s k + l (bt s k - 97)
theorem csm_bd {l : Nat → Int} {s : ByteArray} (hl : ∀ i, i < 8 → 0 ≤ l i ∧ l i ≤ 1000) (hs : isTk s = true) : ∀ k, k ≤ s.size → 0 ≤ csm l s k ∧ csm l s k ≤ 1000 * k
  | 0, _ => by simp [csm]
  | k + 1, hk => by
    have ih := csm_bd hl hs k (by omega)
    have a := (isTk_at hs).2 k (by omega)
    have b := hl (bt s k - 97) (by omega)
    show 0 ≤ csm l s k + l (bt s k - 97) ∧ csm l s k + l (bt s k - 97) ≤ _
    omega
/-- The cost of the product i. -/
def csP (l : Nat → Int) (f : Nat → ByteArray) (i : Nat) : Int := csm l (f i) (f i).size
/-- The least of the first costs. -/
def mnR (c : Nat → Int) : Nat → Int
  | 0 => 0
  | k + 1 => if k = 0 ∨ c k < mnR c k then c k else mnR c k
theorem mnR_min (c : Nat → Int) : ∀ n, Lib.minOf ((List.range (n + 1)).map c) = mnR c (n + 1) := by
  intro n
  unfold Lib.minOf
  have hd : ((List.range (n + 1)).map c).headD 0 = c 0 := by rw [List.range_succ_eq_map]; rfl
  rw [hd]
  induction n with
  | zero => simp [mnR]
  | succ n ih =>
    have hd : ((List.range (n + 1)).map c).headD 0 = c 0 := by rw [List.range_succ_eq_map]; rfl
    rw [List.range_succ, List.map_append, List.foldl_append, ih hd]
    show min (mnR c (n + 1)) (c (n + 1)) = if n + 1 = 0 ∨ c (n + 1) < mnR c (n + 1) then c (n + 1) else mnR c (n + 1)
    split <;> omega

end Go.Proofs.YtehdemcfeoiecaaDoor
