/- The layers that come about one by one: the plain law. -/
import Derived.Test.YthgbnjndljjbgaaDoorP8
namespace Go.Firn

/-- What is left behind k layers. -/
def leftK (n : Nat) (P T : Nat → Int) : Nat → Nat → Bool
  | 0, i => decide (i < n)
  | k + 1, i => leftK n P T k i && !frB n P T (leftK n P T k) i
/-- The layer k, and the first m layers. -/
def layK1 (n : Nat) (P T : Nat → Int) (k : Nat) : List Nat := firstL n P T (leftK n P T k)
def layT (n : Nat) (P T : Nat → Int) (m : Nat) : List (List Nat) := (List.range m).map (layK1 n P T)
theorem layT_succ (n : Nat) (P T : Nat → Int) (m : Nat) : layT n P T (m + 1) = layT n P T m ++ [layK1 n P T m] := by
  unfold layT
  rw [List.range_succ, List.map_append]; rfl
theorem layT_length (n : Nat) (P T : Nat → Int) (m : Nat) : (layT n P T m).length = m := by simp [layT]

theorem leftK_lt {n : Nat} {P T : Nat → Int} : ∀ {k i : Nat}, leftK n P T k i = true → i < n := by
  intro k
  induction k with
  | zero => intro i h; simpa [leftK] using h
  | succ k ih =>
    intro i h
    rw [leftK, Bool.and_eq_true] at h
    exact ih h.1

/-- How many are left, and how many a layer has. -/
theorem cnt_split2 (n : Nat) (p q : Nat → Bool) (h : ∀ i, i < n → q i = true → p i = true) : cnt p n = cnt q n + cnt (fun i => p i && !q i) n := by
  induction n with
  | zero => rfl
  | succ n ih =>
    rw [cnt, cnt, cnt, ih fun i hi => h i (by omega)]
    have := h n (by omega)
    cases hp : p n <;> cases hq : q n <;> simp_all <;> omega
theorem left_cnt (n : Nat) (P T : Nat → Int) (k : Nat) : cnt (leftK n P T k) n = (layK1 n P T k).length + cnt (leftK n P T (k + 1)) n := by
  unfold layK1 firstL
  rw [els_length, cnt_split2 n (leftK n P T k) (frB n P T (leftK n P T k))]
  · rfl
  · intro i _ h
    unfold frB at h
    rw [Bool.and_eq_true] at h
    exact h.1

theorem cnt_pos {p : Nat → Bool} {n i : Nat} (hi : i < n) (hp : p i = true) : 0 < cnt p n := by
  have : i ∈ els p n := els_mem.2 ⟨hi, hp⟩
  have := List.length_pos_of_mem this
  rw [els_length] at this
  exact this
theorem cnt_zero {p : Nat → Bool} {n : Nat} (h : cnt p n = 0) : ∀ i, i < n → p i = false := fun i hi => by
  cases hp : p i
  · rfl
  · have := cnt_pos hi hp; omega
theorem cnt_ex {p : Nat → Bool} {n : Nat} (h : cnt p n ≠ 0) : ∃ i, i < n ∧ p i = true := by
  by_cases hx : ∃ i, i < n ∧ p i = true
  · exact hx
  · have : cnt p n = cnt (fun _ => false) n := cnt_congr fun i hi => by
      cases hp : p i
      · rfl
      · exact absurd ⟨i, hi, hp⟩ hx
    have z : ∀ m, cnt (fun _ => false) m = 0 := fun m => by induction m with
      | zero => rfl
      | succ m ih => rw [cnt, ih]; rfl
    rw [z] at this
    exact absurd this h
/-- The earliest of some hits. -/
theorem earliest (T : Nat → Int) (p : Nat → Bool) : ∀ (n : Nat), (∃ i, i < n ∧ p i = true) → ∃ i, i < n ∧ p i = true ∧ ∀ j, j < n → p j = true → T i ≤ T j := by
  intro n
  induction n with
  | zero => rintro ⟨i, hi, _⟩; omega
  | succ n ih =>
    rintro ⟨i, hi, hp⟩
    by_cases hx : ∃ i, i < n ∧ p i = true
    · obtain ⟨m, hm, hpm, hle⟩ := ih hx
      by_cases hn : p n = true ∧ T n < T m
      · refine ⟨n, by omega, hn.1, fun j hj hpj => ?_⟩
        by_cases e : j = n
        · subst e; omega
        · have := hle j (by omega) hpj; omega
      · refine ⟨m, by omega, hpm, fun j hj hpj => ?_⟩
        by_cases e : j = n
        · subst e
          rcases Int.lt_or_le (T j) (T m) with h | h
          · exact absurd ⟨hpj, h⟩ hn
          · exact h
        · exact hle j (by omega) hpj
    · have e : i = n := by
        rcases Nat.lt_or_ge i n with h | h
        · exact absurd ⟨i, h, hp⟩ hx
        · omega
      subst e
      refine ⟨i, by omega, hp, fun j hj hpj => ?_⟩
      by_cases e : j = i
      · subst e; omega
      · exact absurd ⟨j, by omega, hpj⟩ hx
/-- As long as hits are left, a layer has one. -/
theorem lay_pos {n : Nat} {P T : Nat → Int} {k : Nat} (h : cnt (leftK n P T k) n ≠ 0) : 0 < (layK1 n P T k).length := by
  obtain ⟨i, hi, hp, hle⟩ := earliest T (leftK n P T k) n (cnt_ex h)
  unfold layK1 firstL
  rw [els_length]
  refine cnt_pos hi ?_
  unfold frB
  rw [hp, Bool.true_and, List.all_eq_true]
  intro j hj
  have hj : j < n := by simpa using hj
  cases hl : leftK n P T k j
  · rfl
  · cases hb : bf P T j i
    · rfl
    · have h1 := bf_time hb
      have h2 := hle j hj hl
      omega

/-- Behind m layers nothing is left, and ahead of that something was. -/
def LastL (n : Nat) (P T : Nat → Int) (m : Nat) : Prop := cnt (leftK n P T m) n = 0 ∧ ∀ k, k < m → cnt (leftK n P T k) n ≠ 0
theorem LastL.uniq {n : Nat} {P T : Nat → Int} {m m' : Nat} (h : LastL n P T m) (h' : LastL n P T m') : m = m' := by
  rcases Nat.lt_trichotomy m m' with x | x | x
  · exact absurd h.1 (h'.2 m x)
  · exact x
  · exact absurd h'.1 (h.2 m' x)
theorem left_le {n : Nat} {P T : Nat → Int} : ∀ {k : Nat}, (∀ j, j < k → cnt (leftK n P T j) n ≠ 0) → k + cnt (leftK n P T k) n ≤ n := by
  intro k
  induction k with
  | zero => intro _; have := cnt_le (leftK n P T 0) n; omega
  | succ k ih =>
    intro h
    have h1 := ih fun j hj => h j (by omega)
    have h2 := left_cnt n P T k
    have h3 := lay_pos (h k (by omega))
    omega
/-- What is left, as bits. -/
def leftM (n : Nat) (P T : Nat → Int) (k : Nat) : Nat := mk (leftK n P T k) n
theorem leftM_lt (n : Nat) (P T : Nat → Int) (k : Nat) : leftM n P T k < 2 ^ n := mk_lt _ _
theorem leftM_bit {n : Nat} {P T : Nat → Int} {k i : Nat} : (leftM n P T k).testBit i = leftK n P T k i := by
  unfold leftM
  rw [mk_bit]
  cases h : leftK n P T k i
  · simp
  · simp [leftK_lt h]
theorem leftM_zero_iff {n : Nat} {P T : Nat → Int} {k : Nat} : leftM n P T k = 0 ↔ cnt (leftK n P T k) n = 0 := by
  constructor
  · intro h
    by_cases hc : cnt (leftK n P T k) n = 0
    · exact hc
    · obtain ⟨i, hi, hp⟩ := cnt_ex hc
      rw [← leftM_bit, h] at hp
      simp at hp
  · intro h
    refine Nat.eq_of_testBit_eq fun i => ?_
    rw [leftM_bit, Nat.zero_testBit]
    rcases Nat.lt_or_ge i n with hi | hi
    · exact cnt_zero h i hi
    · cases hp : leftK n P T k i
      · rfl
      · have := leftK_lt hp; omega
theorem leftM_top (n : Nat) (P T : Nat → Int) : leftM n P T 0 = 2 ^ n - 1 := by
  refine Nat.eq_of_testBit_eq fun i => ?_
  rw [leftM_bit, Nat.testBit_two_pow_sub_one]; rfl
theorem fun_bit {n : Nat} {P T : Nat → Int} {k : Nat} : (leftM n P T k).testBit = leftK n P T k := funext fun _ => leftM_bit
theorem leftM_next {n : Nat} {P T : Nat → Int} {k : Nat} (hn : n ≤ 14) : leftM n P T k &&& (65535 - freeM n P T (leftM n P T k)) = leftM n P T (k + 1) := by
  refine Nat.eq_of_testBit_eq fun i => ?_
  have hf := freeM_lt n P T (leftM n P T k)
  have h14 : (2 : Nat) ^ n ≤ 2 ^ 14 := Nat.pow_le_pow_right (by omega) hn
  have hs : freeM n P T (leftM n P T k) < 2 ^ 16 := by omega
  rw [Nat.testBit_and, leftM_bit, leftM_bit, leftK, show 65535 - freeM n P T (leftM n P T k) = 2 ^ 16 - (freeM n P T (leftM n P T k) + 1) by omega, Nat.testBit_two_pow_sub_succ hs]
  cases h : leftK n P T k i
  · simp
  · have hi := leftK_lt h
    unfold freeM
    rw [mk_bit, fun_bit]
    have : i < 16 := by omega
    simp [hi, this]
theorem layK1_free {n : Nat} {P T : Nat → Int} {k : Nat} (hn : n ≤ 14) : els (freeM n P T (leftM n P T k)).testBit 16 = layK1 n P T k := by
  rw [freeM_list hn, fun_bit]; rfl

end Go.Firn
