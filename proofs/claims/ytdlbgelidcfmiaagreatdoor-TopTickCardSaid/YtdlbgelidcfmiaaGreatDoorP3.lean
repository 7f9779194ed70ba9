/- The plain law of TickRounds: the counts of readings are counts, their readings are the readings, their steps are below a round, and the rounds are the downs. -/
import Derived.Test.YtdlbgelidcfmiaaGreatDoorP1
namespace Go.Proofs.YtdlbgelidcfmiaaGreatDoor

theorem cst_one {B : Int} {f : Nat → Int} (h0 : 0 ≤ f 0) : cst B f 1 = f 0 := by
  show cstep B 0 (f 0) = f 0
  unfold cstep
  rw [Int.zero_ediv, Int.zero_mul, if_neg (by omega)]; omega
theorem cst_step {B : Int} {f : Nat → Int} {n : Nat} (hB : 0 < B) (hf : ∀ i, i < n → 0 ≤ f i ∧ f i < B) {k : Nat} (hk : k < n) : cst B f k ≤ cst B f (k + 1) ∧ cst B f (k + 1) < cst B f k + B :=
  cstep_bd hB (cst_bd hB hf k (by omega)).1 (hf k hk).1 (hf k hk).2
theorem cst_emod {B : Int} {f : Nat → Int} {n : Nat} (hB : 0 < B) (hf : ∀ i, i < n → 0 ≤ f i ∧ f i < B) {k : Nat} (hk : k < n) : cst B f (k + 1) % B = f k := by
  rw [cst_eq hB hf k hk, Int.add_comm, Int.add_mul_emod_self_right]
  exact Int.emod_eq_of_lt (hf k hk).1 (hf k hk).2
theorem cst_ediv {B : Int} {f : Nat → Int} {n : Nat} (hB : 0 < B) (hf : ∀ i, i < n → 0 ≤ f i ∧ f i < B) {k : Nat} (hk : k < n) : cst B f (k + 1) / B = dn f (k + 1) := by
  rw [cst_eq hB hf k hk, Int.add_comm, Int.add_mul_ediv_right _ _ (by omega), Int.ediv_eq_zero_of_lt (hf k hk).1 (hf k hk).2, Int.zero_add]
theorem dn_down {f : Nat → Int} {k : Nat} (h : f (k + 1) < f k) : dn f (k + 1 + 1) = dn f (k + 1) + 1 := by
  rw [dn, if_pos ⟨by omega, by simpa using h⟩]
theorem dn_up {f : Nat → Int} {k : Nat} (h : ¬ f (k + 1) < f k) : dn f (k + 1 + 1) = dn f (k + 1) := by
  rw [dn, if_neg (by simpa using h)]
theorem dn_one (f : Nat → Int) : dn f 1 = 0 := by simp [dn]

end Go.Proofs.YtdlbgelidcfmiaaGreatDoor
