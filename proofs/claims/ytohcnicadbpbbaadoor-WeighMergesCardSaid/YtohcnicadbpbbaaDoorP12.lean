/- Plain law of chapter 7: the cut of k is the first k of the row, sorted; which lists are cuts. -/
import Derived.Test.YtohcnicadbpbbaaDoorWJ
namespace Go.Proofs.YtohcnicadbpbbaaDoor
open Go.RowKit Go.Firn

theorem onL_mem {p : Nat → Bool} {n a : Nat} : a ∈ onL p n ↔ a < n ∧ p a = true := by unfold onL; rw [List.mem_filter, List.mem_range]
theorem onL_up (p : Nat → Bool) (n : Nat) : (onL p n).Pairwise (· < ·) := List.Pairwise.filter _ (List.pairwise_lt_range)
theorem onL_nodup (p : Nat → Bool) (n : Nat) : (onL p n).Nodup := (onL_up p n).imp fun h => Nat.ne_of_lt h
theorem nf_at {L : List Nat} {i : Nat} (h : i < L.length) : nf L i = (L[i] : Int) := by unfold nf; rw [List.getD_eq_getElem?_getD, List.getElem?_eq_getElem h]; rfl
/-- A list of numbers that goes up is a cut. -/
theorem cut_of_up {L : List Nat} {n : Nat} (hu : L.Pairwise (· < ·)) (hb : ∀ a ∈ L, a < n) : Cut n L.length (nf L) := by
  refine ⟨fun i hi => ?_, fun i hi => ?_⟩
  · rw [nf_at hi]
    have := hb _ (List.getElem_mem hi)
    omega
  · rw [nf_at hi, nf_at (by omega)]
    have := List.pairwise_iff_getElem.1 hu i (i + 1) (by omega) hi (by omega)
    omega
theorem cut_onL (p : Nat → Bool) (n : Nat) : Cut n (onL p n).length (nf (onL p n)) := cut_of_up (onL_up p n) fun _ h => (onL_mem.1 h).1
theorem inN_iff {R : Nat → Nat} {a : Nat} : ∀ {k : Nat}, inN R k a = true ↔ ∃ p, p < k ∧ R p = a
  | 0 => by simp [inN, setN]
  | k + 1 => by
    rw [inN_succ, Bool.or_eq_true, inN_iff, decide_eq_true_eq]
    constructor
    · rintro (⟨p, h1, h2⟩ | h)
      · exact ⟨p, by omega, h2⟩
      · exact ⟨k, by omega, h.symm⟩
    · rintro ⟨p, h1, h2⟩
      by_cases e : p = k
      · subst e; exact .inr h2.symm
      · exact .inl ⟨p, by omega, h2⟩
/-- The first k of a row, sorted. -/
theorem row_sorted {R : Nat → Nat} {n k : Nat} (hi : Inj n R) (hb : ∀ p, p < n → R p < n) (hk : k ≤ n) :
    (((List.range k).map fun p => (R p : Int)).mergeSort fun x y => decide (x ≤ y)) = (onL (setN R k).testBit n).map fun (a : Nat) => (a : Int) := by
  have tr : ∀ a b c : Int, decide (a ≤ b) = true → decide (b ≤ c) = true → decide (a ≤ c) = true := fun a b c h1 h2 => by
    simp at *; omega
  have tt : ∀ a b : Int, (decide (a ≤ b) || decide (b ≤ a)) = true := fun a b => by simp; omega
  refine List.Perm.eq_of_pairwise (le := fun x y : Int => x ≤ y) (fun a b _ _ h1 h2 => Int.le_antisymm h1 h2) ?_ ?_ ?_
  · exact (List.pairwise_mergeSort tr tt _).imp fun h => by simpa using h
  · rw [List.pairwise_map]
    exact (onL_up _ n).imp fun h => by omega
  · refine (List.mergeSort_perm _ _).trans ?_
    have e : (List.range k).map (fun p => (R p : Int)) = ((List.range k).map R).map fun (a : Nat) => (a : Int) := by rw [List.map_map]; rfl
    rw [e]
    refine List.Perm.map _ ((List.perm_ext_iff_of_nodup ?_ (onL_nodup _ n)).2 fun a => ?_)
    · rw [List.nodup_iff_pairwise_ne, List.pairwise_map]
      refine (List.pairwise_lt_range (n := k)).imp_of_mem fun {a b} ha hb' h e2 => ?_
      have := hi a b (by have := List.mem_range.1 ha; omega) (by have := List.mem_range.1 hb'; omega) e2
      omega
    · rw [onL_mem, List.mem_map]
      have h := inN_iff (R := R) (a := a) (k := k)
      unfold inN at h
      rw [h]
      constructor
      · rintro ⟨p, h1, rfl⟩
        have := List.mem_range.1 h1
        exact ⟨hb p (by omega), p, this, rfl⟩
      · rintro ⟨_, p, h1, h2⟩
        exact ⟨p, List.mem_range.2 h1, h2⟩
theorem cN_len {f g : Nat → Int} (hf : ∀ i, 0 ≤ f i) (hg : ∀ i, 0 ≤ g i) {n k : Nat} (hn : 0 < n) (hk : k ≤ n) : (cN f g n k).length = k := by
  have O := ord_row hf hg hn
  have h := congrArg List.length (row_sorted O.inj O.bd hk)
  rw [List.length_mergeSort, List.length_map, List.length_map, List.length_range] at h
  exact h.symm
theorem cN_cut (f g : Nat → Int) (n k : Nat) : Cut n (cN f g n k).length (nf (cN f g n k)) := cut_onL _ n
theorem cN_sorted {f g : Nat → Int} (hf : ∀ i, 0 ≤ f i) (hg : ∀ i, 0 ≤ g i) {n k : Nat} (hn : 0 < n) (hk : k ≤ n) :
    (((List.range k).map fun p => (rowN f g n p : Int)).mergeSort fun x y => decide (x ≤ y)) = (cN f g n k).map fun (a : Nat) => (a : Int) := by
  have O := ord_row hf hg hn
  exact row_sorted O.inj O.bd hk

end Go.Proofs.YtohcnicadbpbbaaDoor
