/- Plain arithmetic of clocks: valid ones, and the line at a place. -/
import Derived.Test.YtdlbgelidcfmiaaGreatDoorP4
import Derived.Test.YtdlbgelidcfmiaaGreatDoorP1
namespace Go.Proofs.YtdlbgelidcfmiaaGreatDoor

/-- A clock of n marks, Local and True told by index. -/
def vK (n : Nat) (L T : Nat → Int) : Bool :=
  btw 2 n 30 && (List.range n).all fun i => btw 0 (L i) 100000 && btw 0 (T i) 100000 && (decide (i = 0) || !(decide (L i ≤ L (i - 1)) || decide (T i ≤ T (i - 1))))
theorem vK_true {n : Nat} {L T : Nat → Int} : vK n L T = true ↔
    2 ≤ n ∧ n ≤ 30 ∧ (∀ i, i < n → 0 ≤ L i ∧ L i ≤ 100000 ∧ 0 ≤ T i ∧ T i ≤ 100000) ∧ ∀ i, i + 1 < n → L i < L (i + 1) ∧ T i < T (i + 1) := by
  simp only [vK, Bool.and_eq_true, btw_true, List.all_eq_true, List.mem_range, Bool.or_eq_true, decide_eq_true_eq, Bool.not_eq_true', Bool.or_eq_false_iff, decide_eq_false_iff_not]
  constructor
  · rintro ⟨⟨h1, h2⟩, h3⟩
    refine ⟨by omega, by omega, fun i hi => ?_, fun i hi => ?_⟩
    · have := h3 i hi; omega
    · have := (h3 (i + 1) hi).2
      simp only [Nat.add_sub_cancel] at this
      omega
  · rintro ⟨h1, h2, h3, h4⟩
    refine ⟨⟨by omega, by omega⟩, fun i hi => ⟨?_, ?_⟩⟩
    · have := h3 i hi; omega
    · cases i with
      | zero => exact .inl rfl
      | succ i => right; have := h4 i hi; simp only [Nat.add_sub_cancel]; omega
theorem vK_false_of {n k : Nat} {L T : Nat → Int} (hk : k < n) (h : btw 0 (L k) 100000 = false ∨ btw 0 (T k) 100000 = false ∨ ∃ j, k = j + 1 ∧ (L k ≤ L j ∨ T k ≤ T j)) : vK n L T = false := by
  cases e : vK n L T with
  | false => rfl
  | true =>
    obtain ⟨_, _, h3, h4⟩ := vK_true.1 e
    have g := h3 k hk
    rcases h with h | h | ⟨j, rfl, h⟩
    · rw [btw_false] at h; omega
    · rw [btw_false] at h; omega
    · have := h4 j hk; omega

/-- The first index from i on, m further at most, whose next mark is behind the place. -/
def ixf (p : Nat → Bool) : Nat → Nat → Nat
  | 0, i => i
  | m + 1, i => if p (i + 1) then ixf p m (i + 1) else i
/-- The index of the line at a place. -/
def ix (p : Nat → Bool) (n : Nat) : Nat := ixf p (n - 2) 0
theorem ixf_le (p : Nat → Bool) (m : Nat) : ∀ i, i ≤ ixf p m i ∧ ixf p m i ≤ i + m := by
  induction m with
  | zero => intro i; simp [ixf]
  | succ m ih => intro i; simp only [ixf]; split <;> have := ih (i + 1) <;> omega
theorem ix_le (p : Nat → Bool) (n : Nat) : ix p n ≤ n - 2 := by have := (ixf_le p (n - 2) 0).2; unfold ix; omega
theorem ixf_yes (p : Nat → Bool) (m : Nat) : ∀ i j, i < j → j ≤ ixf p m i → p j = true := by
  induction m with
  | zero => intro i j h1 h2; simp [ixf] at h2; omega
  | succ m ih =>
    intro i j h1 h2
    simp only [ixf] at h2
    split at h2
    · by_cases e : j = i + 1
      · subst e; assumption
      · exact ih (i + 1) j (by omega) h2
    · omega
theorem ixf_no (p : Nat → Bool) (m : Nat) : ∀ i, ixf p m i = i + m ∨ p (ixf p m i + 1) = false := by
  induction m with
  | zero => intro i; simp [ixf]
  | succ m ih =>
    intro i
    simp only [ixf]
    split
    · rcases ih (i + 1) with h | h
      · left; omega
      · exact .inr h
    · rename_i h; right; simpa using h
theorem ix_yes {p : Nat → Bool} {n j : Nat} (h1 : 0 < j) (h2 : j ≤ ix p n) : p j = true := ixf_yes p _ 0 j h1 h2
theorem ix_no (p : Nat → Bool) (n : Nat) : ix p n = n - 2 ∨ p (ix p n + 1) = false := by
  rcases ixf_no p (n - 2) 0 with h | h
  · left; unfold ix; omega
  · exact .inr h

theorem mul_bd {a b A B : Int} (h1 : -A ≤ a) (h2 : a ≤ A) (h3 : -B ≤ b) (h4 : b ≤ B) : -(A * B) ≤ a * b ∧ a * b ≤ A * B := by
  have e : (a * b).natAbs ≤ A.natAbs * B.natAbs := by
    rw [Int.natAbs_mul]; exact Nat.mul_le_mul (by omega) (by omega)
  have e2 : ((A.natAbs * B.natAbs : Nat) : Int) = A * B := by
    rw [Int.natCast_mul]; congr 1 <;> omega
  omega

/-- The time of the line i at x: n / d. -/
def aN (L T : Nat → Int) (i : Nat) (x : Int) : Int := (x - L i) * (T (i + 1) - T i) + T i * (L (i + 1) - L i)
def aD (L : Nat → Int) (i : Nat) : Int := L (i + 1) - L i
/-- The local time of the line i at N / D. -/
def bN (L T : Nat → Int) (i : Nat) (N D : Int) : Int := (N - T i * D) * (L (i + 1) - L i) + L i * ((T (i + 1) - T i) * D)
def bD (T : Nat → Int) (i : Nat) (D : Int) : Int := (T (i + 1) - T i) * D
/-- The place of a local time, and of a ratio. -/
def pA (L : Nat → Int) (x : Int) (j : Nat) : Bool := decide (L j ≤ x)
def pB (T : Nat → Int) (N D : Int) (j : Nat) : Bool := decide (T j * D ≤ N)

end Go.Proofs.YtdlbgelidcfmiaaGreatDoor
