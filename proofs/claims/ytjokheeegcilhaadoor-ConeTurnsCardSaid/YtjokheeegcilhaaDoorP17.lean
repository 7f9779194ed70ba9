/- The longest chain, hit by hit: the plain law of its loop. -/
import Derived.Test.YtjokheeegcilhaaDoorP16
namespace Go.Proofs.YtjokheeegcilhaaDoor
open Go.Firn

/-- k hits of the longest chain were told; the next one is from fr. -/
def ChS (n : Nat) (P T : Nat → Int) (k : Nat) (fr : Nat → Bool) : Prop :=
  k ≤ topH n P T ∧ (chnL n P T).drop k = cF n P T (topH n P T - k) fr ∧ (topH n P T - k = 0 ∨ ∃ i, i < n ∧ fr i = true ∧ ht n P T i = topH n P T - k)
theorem ChS.start {n : Nat} {P T : Nat → Int} (hn : 1 ≤ n) : ChS n P T 0 (fun _ => true) := by
  obtain ⟨_, i, hi, e⟩ := topH_ex (P := P) (T := T) hn
  exact ⟨Nat.zero_le _, rfl, .inr ⟨i, hi, rfl, e⟩⟩
theorem find_at {L : List Nat} {p : Nat → Bool} : ∀ {j : Nat}, j < L.length → p (L.getD j 0) = true → (∀ q, q < j → p (L.getD q 0) = false) → L.find? p = some (L.getD j 0) := by
  induction L with
  | nil => intro j hj; simp at hj
  | cons x L ih =>
    intro j hj hp hb
    cases j with
    | zero => rw [List.find?_cons_of_pos (by simpa using hp)]; rfl
    | succ j =>
      have h0 := hb 0 (by omega)
      rw [List.find?_cons_of_neg (by simpa using h0)]
      have := ih (j := j) (by simpa using hj) (by simpa using hp) (fun q hq => by simpa using hb (q + 1) (by omega))
      simpa using this
theorem ChS.ex {n : Nat} {P T : Nat → Int} {k : Nat} {fr : Nat → Bool} (h : ChS n P T k fr) (hk : k < topH n P T) : ∃ j, j < (els fr n).length ∧ ht n P T ((els fr n).getD j 0) = topH n P T - k := by
  obtain ⟨i, hi, hf, he⟩ := h.2.2.resolve_left (by omega)
  obtain ⟨j, hj, e⟩ := List.getElem_of_mem (els_mem.2 ⟨hi, hf⟩)
  exact ⟨j, hj, by rw [List.getD, List.getElem?_eq_getElem hj]; simp [e, he]⟩
theorem ChS.step {n : Nat} {P T : Nat → Int} {k : Nat} {fr : Nat → Bool} (h : ChS n P T k fr) (hk : k < topH n P T) {j : Nat} (hj : j < (els fr n).length)
    (hp : ht n P T ((els fr n).getD j 0) = topH n P T - k) (hb : ∀ q, q < j → ¬ ht n P T ((els fr n).getD q 0) = topH n P T - k) :
    (chnL n P T).getD k 0 = (els fr n).getD j 0 ∧ ChS n P T (k + 1) (bf P T ((els fr n).getD j 0)) := by
  obtain ⟨h1, h2, h3⟩ := h
  obtain ⟨w, hw⟩ : ∃ w, topH n P T - k = w + 1 := ⟨topH n P T - k - 1, by clear h3; omega⟩
  rw [hw] at h2 hp hb
  have f := find_at (L := els fr n) (p := fun i => ht n P T i == w + 1) hj (beq_iff_eq.2 hp) (fun q hq => beq_eq_false_iff_ne.2 (hb q hq))
  rw [cF, f] at h2
  simp only at h2
  have e1 : topH n P T - (k + 1) = w := by clear h3; omega
  refine ⟨?_, by clear h3; omega, ?_, ?_⟩
  · have := congrArg (fun l => l.getD 0 0) h2
    simpa [List.getD] using this
  · have := congrArg List.tail h2
    rw [e1]
    simpa using this
  · rw [e1]
    cases w with
    | zero => exact .inl rfl
    | succ w => exact .inr (ht_next hp)
theorem els_all {n : Nat} (hn : n ≤ 14) : els (2 ^ n - 1).testBit 16 = els (fun _ => true) n := by
  rw [els_more (n := n) (fun i hi => by rw [Nat.testBit_two_pow_sub_one]; simp; omega) (by omega)]
  exact els_congr fun i hi => by rw [Nat.testBit_two_pow_sub_one]; simp [hi]

end Go.Proofs.YtjokheeegcilhaaDoor
