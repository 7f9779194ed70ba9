/- Plain law of chapter 7: each cut is a set of outcomes; what a cut keeps is at most all. -/
import Derived.Test.YtohcnicadbpbbaaDoorP12
namespace Go.Proofs.YtohcnicadbpbbaaDoor
open Go.RowKit Go.Firn

/-- Lists that go up and have the same members are the same. -/
theorem up_ext {L M : List Nat} (hL : L.Pairwise (· < ·)) (hM : M.Pairwise (· < ·)) (h : ∀ a, a ∈ L ↔ a ∈ M) : L = M := by
  have dL : L.Nodup := hL.imp fun h => Nat.ne_of_lt h
  have dM : M.Nodup := hM.imp fun h => Nat.ne_of_lt h
  exact List.Perm.eq_of_pairwise (le := fun x y : Nat => x < y) (fun a b _ _ h1 h2 => by omega) hL hM ((List.perm_ext_iff_of_nodup dL dM).2 h)
/-- The numbers of a cut. -/
def cutL (h : Nat → Int) (q : Nat) : List Nat := (List.range q).map fun i => (h i).toNat
theorem cutL_len (h : Nat → Int) (q : Nat) : (cutL h q).length = q := by simp [cutL]
theorem cutL_nf {n q : Nat} {h : Nat → Int} (C : Cut n q h) {i : Nat} (hi : i < q) : nf (cutL h q) i = h i := by
  have := (C.ok i hi).1
  rw [nf_at (by rw [cutL_len]; exact hi)]
  simp only [cutL, List.getElem_map, List.getElem_range]
  omega
theorem Cut.lt {n q : Nat} {h : Nat → Int} (C : Cut n q h) {i : Nat} : ∀ {j : Nat}, i < j → j < q → h i < h j
  | j + 1, h1, h2 => by
    have a := C.up j h2
    rcases Nat.lt_or_ge i j with h3 | h3
    · have := C.lt (i := i) (j := j) h3 (by omega); omega
    · rw [show i = j by omega]; exact a
theorem cutL_up {n q : Nat} {h : Nat → Int} (C : Cut n q h) : (cutL h q).Pairwise (· < ·) := by
  rw [List.pairwise_iff_getElem]
  intro i j hi hj hij
  rw [cutL_len] at hi hj
  simp only [cutL, List.getElem_map, List.getElem_range]
  have a := C.lt hij hj
  have b := (C.ok i hi).1
  omega
/-- A cut as a set. -/
def cutS (h : Nat → Int) (q : Nat) : Nat := setN (fun i => (h i).toNat) q
theorem setN_pow {R : Nat → Nat} {n : Nat} : ∀ {k : Nat}, (∀ p, p < k → R p < n) → setN R k < 2 ^ n
  | 0, _ => Nat.two_pow_pos n
  | k + 1, h => by
    refine Nat.or_lt_two_pow (setN_pow fun p hp => h p (by omega)) ?_
    rw [Nat.shiftLeft_eq, Nat.one_mul]
    exact Nat.pow_lt_pow_of_lt (by decide) (h k (by omega))
theorem cutS_lt {n q : Nat} {h : Nat → Int} (C : Cut n q h) : cutS h q < 2 ^ n := setN_pow fun p hp => by
  have := C.ok p hp
  omega
theorem cutS_list {n q : Nat} {h : Nat → Int} (C : Cut n q h) : onL (cutS h q).testBit n = cutL h q := by
  refine up_ext (onL_up _ n) (cutL_up C) fun a => ?_
  have e : (cutS h q).testBit a = true ↔ ∃ p, p < q ∧ (h p).toNat = a := inN_iff (R := fun i => (h i).toNat) (a := a) (k := q)
  rw [onL_mem, e]
  unfold cutL
  rw [List.mem_map]
  constructor
  · rintro ⟨_, p, h1, h2⟩
    exact ⟨p, List.mem_range.2 h1, h2⟩
  · rintro ⟨p, h1, h2⟩
    have h1 := List.mem_range.1 h1
    have := C.ok p h1
    exact ⟨by omega, p, h1, h2⟩
/-- The weights of a set. -/
def kS (f : Nat → Int) (s n : Nat) : Int := sm (fun a => if s.testBit a then f a else 0) n
theorem Cut.kp {n q : Nat} {h : Nat → Int} (C : Cut n q h) (f : Nat → Int) : Go.Proofs.YtohcnicadbpbbaaDoor.kp f h q = kS f (cutS h q) n := by
  unfold kS
  rw [← kp_onL f (cutS h q).testBit n, cutS_list C, cutL_len]
  unfold Go.Proofs.YtohcnicadbpbbaaDoor.kp
  exact sm_congr fun i hi => by rw [cutL_nf C hi]
theorem kS_bd {f : Nat → Int} (hf : ∀ i, 0 ≤ f i) (s n : Nat) : 0 ≤ kS f s n ∧ kS f s n ≤ sm f n := by
  unfold kS
  constructor
  · have := sm_mono (f := fun _ => 0) (g := fun a => if s.testBit a then f a else 0) (n := n) (fun i _ => by have := hf i; split <;> omega)
    rwa [show sm (fun _ => (0 : Int)) n = 0 from by have := sm_mul 0 (fun _ => 0) n; simpa using this] at this
  · exact sm_mono fun i _ => by have := hf i; split <;> omega
theorem kp_all {n q : Nat} {h : Nat → Int} (C : Cut n q h) {f : Nat → Int} (hf : ∀ i, 0 ≤ f i) : 0 ≤ Go.Proofs.YtohcnicadbpbbaaDoor.kp f h q ∧ Go.Proofs.YtohcnicadbpbbaaDoor.kp f h q ≤ sm f n := by
  rw [C.kp]; exact kS_bd hf _ n

end Go.Proofs.YtohcnicadbpbbaaDoor
