/- Plain law of chapter 7: the outcomes of a set, taken off one by one; the sets in order. -/
import Derived.Test.YtohcnicadbpbbaaDoorP11
import Derived.Test.YtohcnicadbpbbaaDoorP13
import Derived.Test.YtohcnicadbpbbaaDoorShels
import Derived.Lib.TrailingZeros
namespace Go.Proofs.YtohcnicadbpbbaaDoor
open Go.RowKit Go.Firn Go.Sort

/-- The cut of a set. -/
def cS (n s : Nat) : List Nat := onL s.testBit n
/-- A set without its lowest j outcomes. -/
def rs (s : Nat) : Nat → Nat
  | 0 => s
  | j + 1 => rs s j &&& (rs s j - 1)
set_option maxRecDepth 100000 in
theorem rs_fin : ∀ s : Nat, s < 1024 → ∀ j : Nat, j < 11 → (rs s j = 0 ↔ (onL s.testBit 10).length ≤ j) ∧ (rs s j ≠ 0 → Lib.ctz 64 (rs s j) = (onL s.testBit 10).getD j 0) ∧ rs s j < 1024 := by decide +kernel
theorem cS_ten {n s : Nat} (hn : n ≤ 10) (hs : s < 2 ^ n) : cS n s = onL s.testBit 10 := by
  obtain ⟨d, hd⟩ : ∃ d, 10 = n + d := ⟨10 - n, by omega⟩
  rw [hd]
  clear hn hd
  unfold cS
  induction d with
  | zero => rfl
  | succ d ih =>
    rw [show n + (d + 1) = (n + d) + 1 by omega, onL_succ, ← ih]
    have : s.testBit (n + d) = false := Nat.testBit_lt_two_pow (Nat.lt_of_lt_of_le hs (Nat.pow_le_pow_right (by decide) (by omega)))
    rw [this]; simp
theorem two_pow_le {n : Nat} (hn : n ≤ 10) : 2 ^ n ≤ 1024 := Nat.pow_le_pow_right (by decide) hn
theorem rs_law {n s j : Nat} (hn : n ≤ 10) (hs : s < 2 ^ n) (hj : j ≤ (cS n s).length) : (rs s j = 0 ↔ (cS n s).length ≤ j) ∧ (rs s j ≠ 0 → (Lib.ctz 64 (rs s j) : Int) = nf (cS n s) j) ∧ rs s j < 1024 := by
  have h10 := two_pow_le hn
  have hl := onL_len s.testBit n
  have h := rs_fin s (by omega) j (by have : (cS n s).length ≤ n := hl; omega)
  rw [← cS_ten hn hs] at h
  refine ⟨h.1, fun h0 => ?_, h.2.2⟩
  rw [h.2.1 h0]
  rfl
theorem cS_inj {n s t : Nat} (hs : s < 2 ^ n) (ht : t < 2 ^ n) (h : cS n s = cS n t) : s = t := by
  refine Nat.eq_of_testBit_eq fun i => ?_
  by_cases hi : i < n
  · have a : i ∈ cS n s ↔ i ∈ cS n t := by rw [h]
    unfold cS at a
    rw [onL_mem, onL_mem] at a
    cases h1 : s.testBit i <;> cases h2 : t.testBit i <;> simp_all
  · rw [Nat.testBit_lt_two_pow (Nat.lt_of_lt_of_le hs (Nat.pow_le_pow_right (by decide) (by omega))), Nat.testBit_lt_two_pow (Nat.lt_of_lt_of_le ht (Nat.pow_le_pow_right (by decide) (by omega)))]

/-- A set of outcomes. -/
structure Cs (n : Nat) where
  v : Nat
  lt : v < 2 ^ n
instance (n : Nat) : Inhabited (Cs n) := ⟨⟨0, Nat.two_pow_pos n⟩⟩
def cfC (n : Nat) (x y : Cs n) : Int := cfL (cS n x.v) (cS n y.v)
theorem ltC_false {n : Nat} {x y : Cs n} : ltOf (cfC n) x y = false ↔ ¬ cfL (cS n x.v) (cS n y.v) < 0 := by
  unfold ltOf cfC; rw [decide_eq_false_iff_not]
theorem swoC (n : Nat) : SWO (ltOf (cfC n)) where
  irrefl x := by rw [ltC_false, cfL_zero.2 rfl]; omega
  trans x y z h1 h2 := by
    unfold ltOf cfC at *
    rw [decide_eq_true_eq] at *
    exact cfL_tr h1 h2
  ntrans x y z h1 h2 := by
    rw [ltC_false] at *
    have := cfL_le (cfL_no h2) (cfL_no h1)
    intro h
    have := cfL_gt.2 h
    omega
/-- All sets. -/
def allC (n : Nat) : Array (Cs n) := Array.ofFn fun i : Fin (2 ^ n) => (⟨i.val, i.isLt⟩ : Cs n)
theorem allC_size (n : Nat) : (allC n).size = 2 ^ n := by simp [allC]
theorem allC_at {n i : Nat} (hi : i < 2 ^ n) : (allC n)[i]! = ⟨i, hi⟩ := by
  have h : i < (allC n).size := by rw [allC_size]; exact hi
  rw [getElem!_pos _ i h]
  simp [allC]
/-- The sets in order. -/
structure OrdC (n : Nat) (C : Nat → Nat) : Prop where
  lt : ∀ i, i < 2 ^ n → C i < 2 ^ n
  up : ((List.range (2 ^ n)).map C).Pairwise fun s t => cfL (cS n s) (cS n t) ≤ 0
  all : ∀ s, s ∈ (List.range (2 ^ n)).map C ↔ s < 2 ^ n
theorem ordC_of {n : Nat} {d : Array (Cs n)} (hp : PermIn 0 (2 ^ n) (allC n) d) (hs : SortedIn (ltOf (cfC n)) 0 (2 ^ n) d) : OrdC n fun i => d[i]!.v := by
  obtain ⟨h1, _, h2⟩ := hp
  rw [allC_size] at h1
  have e1 : d.extract 0 (2 ^ n) = d := by rw [← h1]; exact Array.extract_size
  have e2 : (allC n).extract 0 (2 ^ n) = allC n := by rw [← allC_size n]; exact Array.extract_size
  rw [e1, e2] at h2
  have el : (List.range (2 ^ n)).map (fun i => d[i]!.v) = d.toList.map Cs.v := by
    refine List.ext_getElem (by simp [h1]) fun i a b => ?_
    have hi : i < d.size := by simpa using b
    simp [getElem!_pos d i hi]
  refine ⟨fun i _ => (d[i]!).lt, ?_, fun s => ?_⟩
  · rw [List.pairwise_iff_getElem]
    intro i j hi hj hij
    have hi' : i < 2 ^ n := by simpa using hi
    have hj' : j < 2 ^ n := by simpa using hj
    have := hs i j (Nat.zero_le _) hij hj'
    rw [ltC_false] at this
    simp only [List.getElem_map, List.getElem_range]
    exact cfL_no this
  · rw [el]
    have hm : s ∈ d.toList.map Cs.v ↔ s ∈ (allC n).toList.map Cs.v := (h2.map Cs.v).mem_iff
    rw [hm]
    constructor
    · intro h
      obtain ⟨x, _, rfl⟩ := List.mem_map.1 h
      exact x.lt
    · intro h
      exact List.mem_map.2 ⟨⟨s, h⟩, by simp [allC]; exact ⟨⟨s, h⟩, rfl⟩, rfl⟩

end Go.Proofs.YtohcnicadbpbbaaDoor
