/- A rest from its ratio; whether some pair's line has the least cost: the plain law. -/
import Derived.Test.YtbhndfnfohoidaaW29
import Derived.Test.YtbhndfnfohoidaaW19
namespace Go.Proofs.Ytbhndfnfohoidaa

/-- A number in lowest terms, brought back to its denominator. -/
theorem back {s d : Int} (hd : 0 < d) : d.tmod (rD s d) = 0 ∧ d.tdiv (rD s d) = (Int.gcd s d : Int) ∧ rN s d * (Int.gcd s d : Int) = s ∧ 0 < (Int.gcd s d : Int) ∧ (Int.gcd s d : Int) ≤ d := by
  have g0 := gcd_pos s hd
  have h := rD_mul s d
  have p := rD_pos s hd
  refine ⟨Int.tmod_eq_zero_of_dvd ⟨_, h.symm⟩, ?_, rN_mul s d, g0, Int.le_of_dvd hd (Int.gcd_dvd_right s d)⟩
  rw [Int.tdiv_eq_ediv_of_dvd ⟨_, h.symm⟩]
  exact Int.ediv_eq_of_eq_mul_right (by omega) h.symm

/-- Whether one of the pairs' lines has this cost. -/
def smB (n : Nat) (X Y : Nat → Int) (N D : Int) (l : List (Nat × Nat)) : Bool := l.any fun q => pN n X Y q == N && pE n X Y q == D
theorem smB_snoc (n : Nat) (X Y : Nat → Int) (N D : Int) (l : List (Nat × Nat)) (q : Nat × Nat) : smB n X Y N D (l ++ [q]) = (smB n X Y N D l || (pN n X Y q == N && pE n X Y q == D)) := by unfold smB; rw [List.any_append]; simp
theorem smB_end {n : Nat} {X Y : Nat → Int} (V : VP n X Y) : smB n X Y (leN n X Y) (leD n X Y) (prs X n) = true := by
  obtain ⟨q, hq, _⟩ := bst_some V
  unfold smB
  rw [List.any_eq_true]
  refine ⟨q, bst_mem hq, ?_⟩
  have e1 : leN n X Y = pN n X Y q := by unfold leN; rw [vP_iff.2 V, hq]; rfl
  have e2 : leD n X Y = pE n X Y q := by unfold leD; rw [vP_iff.2 V, hq]; rfl
  rw [e1, e2]
  simp
theorem asE_zero {n : Nat} {X Y : Nat → Int} {A B D : Int} (V : VP n X Y) (h : InL A B D) : asE n X Y A B D = 0 := by unfold asE; rw [vP_iff.2 V, inLB_iff.2 h]; rfl
theorem asE_pair {n : Nat} {X Y : Nat → Int} (V : VP n X Y) {q : Nat × Nat} (h : IsPr n X q) : asE n X Y (pA X Y q) (pB X Y q) (pD X Y q) = 0 := asE_zero V (pr_in V.ok h).1
theorem leE_ok {n : Nat} {X Y : Nat → Int} (V : VP n X Y) : leE n X Y = 0 := by unfold leE; rw [vP_iff.2 V]; rfl
end Go.Proofs.Ytbhndfnfohoidaa
