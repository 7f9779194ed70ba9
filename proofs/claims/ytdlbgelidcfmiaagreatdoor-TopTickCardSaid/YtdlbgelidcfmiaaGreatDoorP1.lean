/- Plain arithmetic of counters: powers of two. No program in sight. -/
namespace Go.Proofs.YtdlbgelidcfmiaaGreatDoor

/-- low <= n <= high, as a Bool that the walk does not open. -/
def btw (a n b : Int) : Bool := decide (a ≤ n) && decide (n ≤ b)
theorem btw_true {a n b : Int} : btw a n b = true ↔ a ≤ n ∧ n ≤ b := by simp [btw]
theorem btw_false {a n b : Int} : btw a n b = false ↔ ¬ (a ≤ n ∧ n ≤ b) := by simp [btw]

def isBits (b : Int) : Bool := btw 4 b 32
theorem isBits_true {b : Int} : isBits b = true ↔ 4 ≤ b ∧ b ≤ 32 := by simp [isBits, btw]

/-- 2 to the power of b. -/
def pw (b : Int) : Int := ((2 ^ b.toNat : Nat) : Int)
theorem pw_pos (b : Int) : 0 < pw b := by
  have : 0 < (2 : Nat) ^ b.toNat := Nat.pow_pos (by omega)
  exact Int.ofNat_lt.2 this
theorem pw_le {b : Int} (h : b ≤ 32) : pw b ≤ 4294967296 := by
  have : (2 : Nat) ^ b.toNat ≤ 2 ^ 32 := Nat.pow_le_pow_right (by omega) (by omega)
  exact Int.ofNat_le.2 this
theorem pw_ge {b : Int} (h : 4 ≤ b) : 16 ≤ pw b := by
  have : (2 : Nat) ^ 4 ≤ 2 ^ b.toNat := Nat.pow_le_pow_right (by omega) (by omega)
  exact Int.ofNat_le.2 this
theorem pw_succ (k : Nat) : pw ((k + 1 : Nat) : Int) = pw k * 2 := by
  unfold pw
  simp only [Int.toNat_natCast, Nat.pow_succ]
  exact Int.natCast_mul _ _
theorem pw_succ' (k : Nat) : pw ((k : Int) + 1) = pw k * 2 := pw_succ k

/-- The count behind 'now' for the reading r, of rounds of B. -/
def cstep (B now r : Int) : Int := if now / B * B + r < now then now / B * B + r + B else now / B * B + r
/-- The count of the reading k - 1 (0 ahead of all). -/
def cst (B : Int) (f : Nat → Int) : Nat → Int
  | 0 => 0
  | k + 1 => cstep B (cst B f k) (f k)

theorem div_mul_bd {B now : Int} (hB : 0 < B) : now / B * B ≤ now ∧ now < now / B * B + B := by
  have h1 := Int.mul_ediv_add_emod now B
  have h2 := Int.emod_nonneg now (by omega : B ≠ 0)
  have h3 := Int.emod_lt_of_pos now hB
  rw [Int.mul_comm] at h1
  omega
theorem div_mul_nonneg {B now : Int} (hB : 0 < B) (h : 0 ≤ now) : 0 ≤ now / B * B :=
  Int.mul_nonneg (Int.ediv_nonneg h (by omega)) (by omega)

theorem cstep_bd {B now r : Int} (hB : 0 < B) (h : 0 ≤ now) (h0 : 0 ≤ r) (h1 : r < B) : now ≤ cstep B now r ∧ cstep B now r < now + B := by
  have h2 := div_mul_bd (now := now) hB
  have h3 := div_mul_nonneg hB h
  unfold cstep
  split <;> omega

theorem cst_bd {B : Int} {f : Nat → Int} {n : Nat} (hB : 0 < B) (hf : ∀ i, i < n → 0 ≤ f i ∧ f i < B) : ∀ k, k ≤ n → 0 ≤ cst B f k ∧ cst B f k ≤ k * B := by
  intro k
  induction k with
  | zero => intro _; simp [cst]
  | succ k ih =>
    intro hk
    have i := ih (by omega)
    have := cstep_bd hB i.1 (hf k (by omega)).1 (hf k (by omega)).2
    have e : ((k + 1 : Nat) : Int) * B = k * B + B := by rw [Int.natCast_add, Int.add_mul]; simp
    rw [e]
    show 0 ≤ cstep _ _ _ ∧ cstep _ _ _ ≤ _
    omega

/-- How often the first k readings go down. -/
def dn (f : Nat → Int) : Nat → Int
  | 0 => 0
  | k + 1 => if 0 < k ∧ f k < f (k - 1) then dn f k + 1 else dn f k
theorem dn_bd (f : Nat → Int) (k : Nat) : 0 ≤ dn f k ∧ dn f k ≤ k := by
  induction k with
  | zero => simp [dn]
  | succ k ih => simp only [dn]; split <;> omega

/-- The counts by steps are the rounds and the readings. -/
theorem cst_eq {B : Int} {f : Nat → Int} {n : Nat} (hB : 0 < B) (hf : ∀ i, i < n → 0 ≤ f i ∧ f i < B) : ∀ k, k < n → cst B f (k + 1) = dn f (k + 1) * B + f k := by
  intro k
  induction k with
  | zero =>
    intro h
    have := (hf 0 h).1
    simp [cst, cstep, dn]; omega
  | succ k ih =>
    intro h
    have i := ih (by omega)
    have h0 := hf k (by omega)
    have h1 := hf (k + 1) h
    have ed : (dn f (k + 1) * B + f k) / B = dn f (k + 1) := by
      rw [Int.add_comm, Int.add_mul_ediv_right _ _ (by omega), Int.ediv_eq_zero_of_lt h0.1 h0.2, Int.zero_add]
    show cstep B (cst B f (k + 1)) (f (k + 1)) = _
    rw [i, cstep, ed]
    have e2 : dn f (k + 1 + 1) = if 0 < k + 1 ∧ f (k + 1) < f (k + 1 - 1) then dn f (k + 1) + 1 else dn f (k + 1) := rfl
    rw [e2]
    simp only [Nat.zero_lt_succ, true_and, Nat.add_sub_cancel]
    split
    · rw [if_pos (by omega), Int.add_mul]; omega
    · rw [if_neg (by omega)]

end Go.Proofs.YtdlbgelidcfmiaaGreatDoor
