/- The first witness that tells most: the plain law of its search. -/
import Derived.Test.YtbhndfnfohoidaaP4
namespace Go.Proofs.Ytbhndfnfohoidaa

/-- What was found: the witness (none: none yet), and what it tells. -/
structure Wst where
  l : List Nat
  N : Int
  D : Int
def wst0 : Wst := ⟨[], 0, 1⟩
def LN (X Y : Nat → Int) (L : List Nat) : Int := tlN X Y L.length (nf L)
def LD (X Y : Nat → Int) (L : List Nat) : Int := tlD X Y L.length (nf L)
def wstep (X Y : Nat → Int) (s : Wst) (L : List Nat) : Wst := if s.l = [] ∨ s.N * LD X Y L < LN X Y L * s.D then ⟨L, LN X Y L, LD X Y L⟩ else s
def witS (X Y : Nat → Int) (ls : List (List Nat)) : Wst := ls.foldl (wstep X Y) wst0
theorem witS_snoc (X Y : Nat → Int) (ls : List (List Nat)) (L : List Nat) : witS X Y (ls ++ [L]) = wstep X Y (witS X Y ls) L := by unfold witS; rw [List.foldl_append]; rfl

/-- A list that is a witness. -/
def IsWit (n : Nat) (X : Nat → Int) (L : List Nat) : Prop := witB n X L.length (nf L) = true ∧ (L.length = 2 ∨ L.length = 3)
theorem row2_wit {n : Nat} {X : Nat → Int} {a : Nat} (ha : a < n) : ∀ {b : Nat}, b ≤ n → ∀ L ∈ row2 X a b, IsWit n X L := by
  intro b
  induction b with
  | zero => intro _ L hL; cases hL
  | succ b ih =>
    intro hb L hL
    rw [row2, List.mem_append] at hL
    rcases hL with hL | hL
    · exact ih (by omega) L hL
    · split at hL
      · rename_i h
        obtain rfl := List.mem_singleton.1 hL
        refine ⟨?_, .inl rfl⟩
        have e0 : nf [a, b] 0 = (a : Int) := rfl
        have e1 : nf [a, b] 1 = (b : Int) := rfl
        unfold witB goodW goodAt anyI at_
        simp [List.range_succ, e0, e1, h.2]
        omega
      · cases hL
theorem row3_wit {n : Nat} {X : Nat → Int} {a b : Nat} (ha : a < n) (hb : b < n) : ∀ {c : Nat}, c ≤ n → ∀ L ∈ row3 X a b c, IsWit n X L := by
  intro c
  induction c with
  | zero => intro _ L hL; cases hL
  | succ c ih =>
    intro hc L hL
    rw [row3, List.mem_append] at hL
    rcases hL with hL | hL
    · exact ih (by omega) L hL
    · split at hL
      · rename_i h
        obtain rfl := List.mem_singleton.1 hL
        refine ⟨?_, .inr rfl⟩
        have e0 : nf [a, b, c] 0 = (a : Int) := rfl
        have e1 : nf [a, b, c] 1 = (b : Int) := rfl
        have e2 : nf [a, b, c] 2 = (c : Int) := rfl
        have h1 : a ≠ b := fun e => by subst e; have := h.1; omega
        have h2 : b ≠ c := fun e => by subst e; have := h.2; omega
        have h3 : a ≠ c := fun e => by subst e; have := h.1; have := h.2; omega
        unfold witB goodW goodAt anyI at_
        simp [List.range_succ, e0, e1, e2, h.1, h.2]
        omega
      · cases hL
theorem wits_wit {n : Nat} {X : Nat → Int} : ∀ L ∈ wits n X, IsWit n X L := by
  have p2 : ∀ k, k ≤ n → ∀ L ∈ pr2 X n k, IsWit n X L := by
    intro k
    induction k with
    | zero => intro _ L hL; cases hL
    | succ k ih =>
      intro hk L hL
      rw [pr2, List.mem_append] at hL
      rcases hL with hL | hL
      · exact ih (by omega) L hL
      · exact row2_wit (by omega) (Nat.le_refl _) L hL
  have q3 : ∀ a, a < n → ∀ k, k ≤ n → ∀ L ∈ pl3 X n a k, IsWit n X L := by
    intro a ha k
    induction k with
    | zero => intro _ L hL; cases hL
    | succ k ih =>
      intro hk L hL
      rw [pl3, List.mem_append] at hL
      rcases hL with hL | hL
      · exact ih (by omega) L hL
      · exact row3_wit ha (by omega) (Nat.le_refl _) L hL
  have p3 : ∀ k, k ≤ n → ∀ L ∈ cub X n k, IsWit n X L := by
    intro k
    induction k with
    | zero => intro _ L hL; cases hL
    | succ k ih =>
      intro hk L hL
      rw [cub, List.mem_append] at hL
      rcases hL with hL | hL
      · exact ih (by omega) L hL
      · exact q3 k (by omega) n (Nat.le_refl _) L hL
  intro L hL
  unfold wits at hL
  rcases List.mem_append.1 hL with hL | hL
  · exact p2 n (Nat.le_refl _) L hL
  · exact p3 n (Nat.le_refl _) L hL

/-- What a witness of points in range tells is small. -/
theorem LND_bd {n : Nat} {X Y : Nat → Int} (ok : ∀ i, i < n → InP (X i) (Y i)) {L : List Nat} (h : IsWit n X L) : (0 ≤ LN X Y L ∧ LN X Y L ≤ 800000) ∧ 0 < LD X Y L ∧ LD X Y L ≤ 400 := by
  obtain ⟨h1, h2⟩ := h
  unfold witB at h1
  rw [Bool.and_eq_true] at h1
  obtain ⟨hg, hw⟩ := h1
  have at1 : ∀ j, j < L.length → at_ (nf L) j < n := fun j hj => by
    obtain ⟨i, hi, e⟩ := goodW_at hg hj
    unfold at_; rw [e]; simpa using hi
  unfold LN LD tlN tlD
  rcases h2 with e | e
  · rw [if_pos e, if_pos e]
    have a := ok _ (at1 0 (by omega))
    have b := ok _ (at1 1 (by omega))
    generalize at_ (nf L) 0 = p at *
    generalize at_ (nf L) 1 = q at *
    obtain ⟨_, a3, a4⟩ := a
    obtain ⟨_, b3, b4⟩ := b
    have hb : 0 ≤ ab (Y p - Y q) ∧ ab (Y p - Y q) ≤ 2000 := by have := ab_cases (Y p - Y q); omega
    unfold t2N t2D
    have := rN_nonneg (d := 2) hb.1
    have := rN_le (d := 2) hb.1
    have := rD_pos (d := 2) (ab (Y p - Y q)) (by omega)
    have := rD_le (d := 2) (ab (Y p - Y q)) (by omega)
    omega
  · rw [if_neg (by omega), if_neg (by omega)]
    rw [decide_eq_false (show ¬ L.length = 2 by omega), decide_eq_true e] at hw
    simp only [Bool.false_and, Bool.false_or, Bool.true_and, Bool.and_eq_true, decide_eq_true_eq] at hw
    have a := ok _ (at1 0 (by omega))
    have b := ok _ (at1 1 (by omega))
    have c := ok _ (at1 2 (by omega))
    generalize at_ (nf L) 0 = p at *
    generalize at_ (nf L) 1 = q at *
    generalize at_ (nf L) 2 = r at *
    obtain ⟨t1, t2, t3⟩ := t3r_bd a b c (show X p ≠ X r by omega)
    unfold t3N t3D
    generalize t3r X Y p q r = tr at *
    generalize t3d X Y p r = d at *
    have hb : 0 ≤ ab tr ∧ ab tr ≤ 800000 := by have := ab_cases tr; omega
    have := rN_nonneg (d := 2 * d) hb.1
    have := rN_le (d := 2 * d) hb.1
    have := rD_pos (d := 2 * d) (ab tr) (by omega)
    have := rD_le (d := 2 * d) (ab tr) (by omega)
    omega
theorem witS_bd {n : Nat} {X Y : Nat → Int} (ok : ∀ i, i < n → InP (X i) (Y i)) : ∀ {ls : List (List Nat)}, (∀ L ∈ ls, IsWit n X L) → (0 ≤ (witS X Y ls).N ∧ (witS X Y ls).N ≤ 800000) ∧ 0 < (witS X Y ls).D ∧ (witS X Y ls).D ≤ 400 := by
  have key : ∀ (ls : List (List Nat)) (s : Wst), (∀ L ∈ ls, IsWit n X L) → ((0 ≤ s.N ∧ s.N ≤ 800000) ∧ 0 < s.D ∧ s.D ≤ 400) → (0 ≤ (ls.foldl (wstep X Y) s).N ∧ (ls.foldl (wstep X Y) s).N ≤ 800000) ∧ 0 < (ls.foldl (wstep X Y) s).D ∧ (ls.foldl (wstep X Y) s).D ≤ 400 := by
    intro ls
    induction ls with
    | nil => intro s _ h; exact h
    | cons L ls ih =>
      intro s hl h
      refine ih _ (fun M hM => hl M (List.mem_cons_of_mem _ hM)) ?_
      unfold wstep
      split
      · exact LND_bd ok (hl L (List.mem_cons_self ..))
      · exact h
  intro ls hl
  exact key ls wst0 hl ⟨⟨by decide, by decide⟩, by decide, by decide⟩

end Go.Proofs.Ytbhndfnfohoidaa
