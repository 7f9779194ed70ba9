/- The best pair of points, the first whose line costs least: the plain law. -/
import Derived.Test.YtbhndfnfohoidaaW14
namespace Go.Proofs.Ytbhndfnfohoidaa

/-- The line through the points of a pair, and what it costs. -/
def pA (X Y : Nat → Int) (q : Nat × Nat) : Int := thA (X q.1) (Y q.1) (X q.2) (Y q.2)
def pB (X Y : Nat → Int) (q : Nat × Nat) : Int := thB (X q.1) (Y q.1) (X q.2) (Y q.2)
def pD (X Y : Nat → Int) (q : Nat × Nat) : Int := thD (X q.1) (Y q.1) (X q.2) (Y q.2)
def pS (n : Nat) (X Y : Nat → Int) (q : Nat × Nat) : Int := sumA X Y (pA X Y q) (pB X Y q) (pD X Y q) n
def pN (n : Nat) (X Y : Nat → Int) (q : Nat × Nat) : Int := rN (pS n X Y q) (pD X Y q)
def pE (n : Nat) (X Y : Nat → Int) (q : Nat × Nat) : Int := rD (pS n X Y q) (pD X Y q)
def pstep (n : Nat) (X Y : Nat → Int) : Option (Nat × Nat) → Nat × Nat → Option (Nat × Nat)
  | none, q => some q
  | some b, q => if pN n X Y q * pE n X Y b < pN n X Y b * pE n X Y q then some q else some b
def bst (n : Nat) (X Y : Nat → Int) (l : List (Nat × Nat)) : Option (Nat × Nat) := l.foldl (pstep n X Y) none
theorem bst_snoc (n : Nat) (X Y : Nat → Int) (l : List (Nat × Nat)) (q : Nat × Nat) : bst n X Y (l ++ [q]) = pstep n X Y (bst n X Y l) q := by unfold bst; rw [List.foldl_append]; rfl
theorem pstep_some (n : Nat) (X Y : Nat → Int) (s : Option (Nat × Nat)) (q : Nat × Nat) : ∃ b, pstep n X Y s q = some b ∧ (b = q ∨ s = some b) := by
  match s with
  | none => exact ⟨q, rfl, .inl rfl⟩
  | some b =>
    unfold pstep
    by_cases h : pN n X Y q * pE n X Y b < pN n X Y b * pE n X Y q
    · exact ⟨q, if_pos h, .inl rfl⟩
    · exact ⟨b, if_neg h, .inr rfl⟩
theorem fold_mem (n : Nat) (X Y : Nat → Int) : ∀ (l : List (Nat × Nat)) (s : Option (Nat × Nat)) (b : Nat × Nat), l.foldl (pstep n X Y) s = some b → b ∈ l ∨ s = some b := by
  intro l
  induction l with
  | nil => intro s b h; exact .inr h
  | cons q l ih =>
    intro s b h
    rcases ih _ b h with h1 | h1
    · exact .inl (List.mem_cons_of_mem _ h1)
    · obtain ⟨b', e, hb⟩ := pstep_some n X Y s q
      rw [e] at h1
      obtain rfl := Option.some.inj h1
      rcases hb with rfl | hb
      · exact .inl (List.mem_cons_self ..)
      · exact .inr hb
theorem bst_mem {n : Nat} {X Y : Nat → Int} {l : List (Nat × Nat)} {b : Nat × Nat} (h : bst n X Y l = some b) : b ∈ l := by
  rcases fold_mem n X Y l none b h with h1 | h1
  · exact h1
  · cases h1
theorem bst_none {n : Nat} {X Y : Nat → Int} : ∀ {l : List (Nat × Nat)}, bst n X Y l = none → l = [] := by
  intro l h
  rcases List.eq_nil_or_concat l with rfl | ⟨l', q, rfl⟩
  · rfl
  · rw [List.concat_eq_append, bst_snoc] at h
    obtain ⟨b, e, _⟩ := pstep_some n X Y (bst n X Y l') q
    rw [e] at h
    cases h
theorem prow_pr {n : Nat} {X : Nat → Int} {k : Nat} (hk : k < n) : ∀ {i : Nat}, i ≤ k → ∀ q ∈ prow X k i, IsPr n X q := by
  intro i
  induction i with
  | zero => intro _ q h; cases h
  | succ i ih =>
    intro hi q h
    rw [prow, List.mem_append] at h
    rcases h with h | h
    · exact ih (by omega) q h
    · split at h
      · obtain rfl := List.mem_singleton.1 h
        exact ⟨hi, hk, by assumption⟩
      · cases h
theorem prs_pr {n : Nat} {X : Nat → Int} : ∀ {k : Nat}, k ≤ n → ∀ q ∈ prs X k, IsPr n X q := by
  intro k
  induction k with
  | zero => intro _ q h; cases h
  | succ k ih =>
    intro hk q h
    rw [prs, List.mem_append] at h
    rcases h with h | h
    · exact ih (by omega) q h
    · exact prow_pr (by omega) (Nat.le_refl _) q h
theorem mem_prow {X : Nat → Int} {k : Nat} : ∀ {m i : Nat}, i < m → X i ≠ X k → (i, k) ∈ prow X k m := by
  intro m
  induction m with
  | zero => intro i h; omega
  | succ m ih =>
    intro i h hx
    rw [prow, List.mem_append]
    by_cases e : i = m
    · subst e; rw [if_pos hx]; exact .inr (List.mem_singleton.2 rfl)
    · exact .inl (ih (by omega) hx)
theorem mem_prs {X : Nat → Int} {i k : Nat} (h : i < k) (hx : X i ≠ X k) : ∀ {n : Nat}, k < n → (i, k) ∈ prs X n := by
  intro n
  induction n with
  | zero => intro h; omega
  | succ n ih =>
    intro hk
    rw [prs, List.mem_append]
    by_cases e : k = n
    · subst e; exact .inr (mem_prow h hx)
    · exact .inl (ih (by omega))
theorem prs_ne {n : Nat} {X Y : Nat → Int} (V : VP n X Y) : prs X n ≠ [] := by
  obtain ⟨i, hi, hx⟩ := V.far
  have h0 : 0 < i := by rcases Nat.eq_zero_or_pos i with rfl | h
                        · exact absurd rfl hx
                        · exact h
  exact fun e => by have := mem_prs (X := X) h0 (fun h => hx h.symm) hi; rw [e] at this; cases this

theorem pr_in {n : Nat} {X Y : Nat → Int} (ok : ∀ i, i < n → InP (X i) (Y i)) {q : Nat × Nat} (h : IsPr n X q) : InL (pA X Y q) (pB X Y q) (pD X Y q) ∧ 0 < pD X Y q ∧ pD X Y q ≤ 200 := by
  have a := ok q.1 (by have := h.1; have := h.2.1; omega)
  have b := ok q.2 h.2.1
  have d := (th_bd a b h.2.2).2.2
  exact ⟨th_in a b h.2.2, d.1, d.2⟩
theorem pr_bd {n : Nat} {X Y : Nat → Int} (hn : n ≤ 12) (ok : ∀ i, i < n → InP (X i) (Y i)) {q : Nat × Nat} (h : IsPr n X q) : (0 ≤ pN n X Y q ∧ pN n X Y q ≤ 2520000000) ∧ 0 < pE n X Y q ∧ pE n X Y q ≤ 200 := by
  obtain ⟨hl, d1, d2⟩ := pr_in ok h
  have s := sumA_bd ok hl (Nat.le_refl n)
  have s1 : pS n X Y q ≤ 2520000000 := by unfold pS; omega
  have s0 : 0 ≤ pS n X Y q := s.1
  have a := rN_nonneg (d := pD X Y q) s0
  have b := rN_le (d := pD X Y q) s0
  have c := rD_pos (pS n X Y q) d1
  have e := rD_le (pS n X Y q) d1
  unfold pN pE
  omega
theorem pr_sz {n : Nat} {X Y : Nat → Int} (hn : n ≤ 12) (ok : ∀ i, i < n → InP (X i) (Y i)) {q b : Nat × Nat} (h : IsPr n X q) (h' : IsPr n X b) : Sz (pN n X Y q * pE n X Y b) := by
  obtain ⟨h1, _⟩ := pr_bd hn ok h
  obtain ⟨_, h2⟩ := pr_bd hn ok h'
  have l : 0 ≤ pN n X Y q * pE n X Y b := Int.mul_nonneg h1.1 (by omega)
  have u : pN n X Y q * pE n X Y b ≤ 2520000000 * 200 := Int.mul_le_mul h1.2 h2.2 (by omega) (by omega)
  exact ⟨by omega, by omega⟩

/-- The line of what was found; none: the line of zeros. -/
def oA (X Y : Nat → Int) : Option (Nat × Nat) → Int
  | none => 0
  | some q => pA X Y q
def oB (X Y : Nat → Int) : Option (Nat × Nat) → Int
  | none => 0
  | some q => pB X Y q
def oD (X Y : Nat → Int) : Option (Nat × Nat) → Int
  | none => 0
  | some q => pD X Y q
end Go.Proofs.Ytbhndfnfohoidaa
