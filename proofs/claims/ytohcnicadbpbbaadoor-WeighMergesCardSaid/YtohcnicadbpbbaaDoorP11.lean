/- Plain law of chapter 7: the order of cuts, and the best one of those that are let. -/
import Derived.Test.YtohcnicadbpbbaaDoorWJ
namespace Go.Proofs.YtohcnicadbpbbaaDoor
open Go.RowKit Go.Firn

/-- Which of two lists comes first, number by number. -/
def lexI : List Nat → List Nat → Int
  | [], [] => 0
  | [], _ :: _ => -1
  | _ :: _, [] => 1
  | a :: l, b :: m => if a < b then -1 else if b < a then 1 else lexI l m
theorem lexI_self : ∀ l, lexI l l = 0
  | [] => rfl
  | a :: l => by simp [lexI, lexI_self l]
theorem lexI_anti : ∀ l m, lexI m l = -lexI l m
  | [], [] => rfl
  | [], _ :: _ => rfl
  | _ :: _, [] => rfl
  | a :: l, b :: m => by
    unfold lexI
    by_cases h1 : a < b
    · rw [if_neg (by omega), if_pos h1, if_pos h1]; rfl
    · by_cases h2 : b < a
      · rw [if_pos h2, if_neg h1, if_pos h2]
      · rw [if_neg h2, if_neg h1, if_neg h1, if_neg h2]; exact lexI_anti l m
theorem lexI_eq : ∀ {l m}, lexI l m = 0 → l = m
  | [], [], _ => rfl
  | [], _ :: _, h => by simp [lexI] at h
  | _ :: _, [], h => by simp [lexI] at h
  | a :: l, b :: m, h => by
    unfold lexI at h
    split at h
    · omega
    · split at h
      · omega
      · have : a = b := by omega
        rw [this, lexI_eq h]
theorem lexI_tr : ∀ {l m k}, lexI l m < 0 → lexI m k < 0 → lexI l k < 0
  | _, _, [], _, h => by
    rename_i m _
    cases m <;> simp [lexI] at h
  | [], _, _ :: _, _, _ => by simp [lexI]
  | _ :: _, [], _ :: _, h, _ => by simp [lexI] at h
  | a :: l, b :: m, c :: k, h1, h2 => by
    unfold lexI at h1 h2 ⊢
    by_cases e1 : a < b
    · by_cases e2 : b < c
      · rw [if_pos (by omega)]; omega
      · rw [if_neg e2] at h2
        by_cases e3 : c < b
        · rw [if_pos e3] at h2; omega
        · rw [if_pos (by omega)]; omega
    · rw [if_neg e1] at h1
      by_cases e3 : b < a
      · rw [if_pos e3] at h1; omega
      · rw [if_neg e3] at h1
        have e : a = b := by omega
        subst e
        by_cases e2 : a < c
        · rw [if_pos e2]; omega
        · rw [if_neg e2] at h2 ⊢
          by_cases e4 : c < a
          · rw [if_pos e4] at h2; omega
          · rw [if_neg e4] at h2 ⊢
            exact lexI_tr h1 h2
/-- Which of two cuts comes first: that with fewer outcomes, then number by number. -/
def cfL (l m : List Nat) : Int := orI (cmpI l.length m.length) (lexI l m)
theorem cfL_lt {l m : List Nat} : cfL l m < 0 ↔ l.length < m.length ∨ (l.length = m.length ∧ lexI l m < 0) := by
  unfold cfL orI cmpI
  by_cases h1 : (l.length : Int) < m.length
  · rw [if_pos h1]; simp; omega
  · rw [if_neg h1]
    by_cases h2 : (m.length : Int) < l.length
    · rw [if_pos h2]; simp; omega
    · rw [if_neg h2]; simp; omega
theorem cfL_zero {l m : List Nat} : cfL l m = 0 ↔ l = m := by
  unfold cfL orI cmpI
  constructor
  · intro h
    by_cases h1 : (l.length : Int) < m.length
    · rw [if_pos h1] at h; simp at h
    · rw [if_neg h1] at h
      by_cases h2 : (m.length : Int) < l.length
      · rw [if_pos h2] at h; simp at h
      · rw [if_neg h2] at h; simp at h; exact lexI_eq h
  · rintro rfl
    simp [lexI_self]
theorem cfL_gt {l m : List Nat} : 0 < cfL l m ↔ cfL m l < 0 := by
  rw [cfL_lt, lexI_anti l m]
  unfold cfL orI cmpI
  by_cases h1 : (l.length : Int) < m.length
  · rw [if_pos h1]; simp; omega
  · rw [if_neg h1]
    by_cases h2 : (m.length : Int) < l.length
    · rw [if_pos h2]; simp; omega
    · rw [if_neg h2]; simp; omega
theorem cfL_tr {l m k : List Nat} (h1 : cfL l m < 0) (h2 : cfL m k < 0) : cfL l k < 0 := by
  rw [cfL_lt] at *
  rcases h1 with h1 | ⟨h1, h3⟩
  · rcases h2 with h2 | ⟨h2, h4⟩ <;> left <;> omega
  · rcases h2 with h2 | ⟨h2, h4⟩
    · left; omega
    · right; exact ⟨by omega, lexI_tr h3 h4⟩
theorem cfL_le {l m k : List Nat} (h1 : cfL l m ≤ 0) (h2 : cfL m k ≤ 0) : cfL l k ≤ 0 := by
  by_cases e1 : cfL l m = 0
  · rw [cfL_zero.1 e1]; exact h2
  · by_cases e2 : cfL m k = 0
    · rw [← cfL_zero.1 e2]; exact h1
    · have := cfL_tr (l := l) (m := m) (k := k) (by omega) (by omega); omega
theorem cfL_no {l m : List Nat} (h : ¬ cfL l m < 0) : cfL m l ≤ 0 := by
  by_cases e : cfL l m = 0
  · rw [cfL_zero.1 e, cfL_zero.2 rfl]; omega
  · have := cfL_gt.1 (show 0 < cfL l m by omega); omega

/-- The best one of the first M that are let: the greatest worth, and of those the first one. -/
structure IsBest (M : Nat) (P : Nat → Bool) (v : Nat → Int) (L : Nat → List Nat) (b : Nat) : Prop where
  lt : b < M
  ok : P b = true
  top : ∀ s, s < M → P s = true → v s < v b ∨ (v s = v b ∧ cfL (L b) (L s) ≤ 0)
theorem IsBest.unique {M : Nat} {P : Nat → Bool} {v : Nat → Int} {L : Nat → List Nat} {b c : Nat} (hL : ∀ s t, s < M → t < M → L s = L t → s = t) (h : IsBest M P v L b) (k : IsBest M P v L c) : b = c := by
  rcases h.top c k.lt k.ok with h1 | ⟨h1, h2⟩ <;> rcases k.top b h.lt h.ok with k1 | ⟨k1, k2⟩
  · omega
  · omega
  · omega
  · refine hL b c h.lt k.lt (cfL_zero.1 ?_)
    by_cases e : cfL (L b) (L c) < 0
    · have := cfL_gt.2 e; omega
    · omega
theorem IsBest.max {M : Nat} {P : Nat → Bool} {v : Nat → Int} {L : Nat → List Nat} {b : Nat} (h : IsBest M P v L b) {s : Nat} (hs : s < M) (hp : P s = true) : v s ≤ v b := by
  rcases h.top s hs hp with h1 | ⟨h1, _⟩ <;> omega

/-- The reference's best one of the first k. -/
def bestR (P : Nat → Bool) (v : Nat → Int) (L : Nat → List Nat) : Nat → Nat
  | 0 => 0
  | k + 1 => if P k = true ∧ (v (bestR P v L k) < v k ∨ (v k = v (bestR P v L k) ∧ cfL (L k) (L (bestR P v L k)) < 0)) then k else bestR P v L k
theorem bestR_is {P : Nat → Bool} {v : Nat → Int} {L : Nat → List Nat} (h0 : P 0 = true) : ∀ k, IsBest (k + 1) P v L (bestR P v L (k + 1))
  | 0 => by
    have e : bestR P v L 1 = 0 := by
      show (if P 0 = true ∧ _ then 0 else 0) = 0
      split <;> rfl
    rw [e]
    refine ⟨by omega, h0, fun s hs _ => ?_⟩
    obtain rfl : s = 0 := by omega
    exact .inr ⟨rfl, by rw [cfL_zero.2 rfl]; omega⟩
  | k + 1 => by
    have ih := bestR_is (P := P) (v := v) (L := L) h0 k
    show IsBest (k + 2) P v L (if P (k + 1) = true ∧ _ then k + 1 else bestR P v L (k + 1))
    generalize bestR P v L (k + 1) = b at *
    by_cases hc : P (k + 1) = true ∧ (v b < v (k + 1) ∨ (v (k + 1) = v b ∧ cfL (L (k + 1)) (L b) < 0))
    · rw [if_pos hc]
      obtain ⟨hp, hc⟩ := hc
      refine ⟨by omega, hp, fun s hs hps => ?_⟩
      by_cases e : s = k + 1
      · subst e; exact .inr ⟨rfl, by rw [cfL_zero.2 rfl]; omega⟩
      · rcases ih.top s (by omega) hps with h1 | ⟨h1, h2⟩ <;> rcases hc with c1 | ⟨c1, c2⟩
        · exact .inl (by omega)
        · exact .inl (by omega)
        · exact .inl (by omega)
        · exact .inr ⟨by omega, cfL_le (Int.le_of_lt c2) h2⟩
    · rw [if_neg hc]
      have lb := ih.lt
      refine ⟨by omega, ih.ok, fun s hs hps => ?_⟩
      by_cases e : s = k + 1
      · subst e
        by_cases c1 : v b < v (k + 1)
        · exact absurd ⟨hps, .inl c1⟩ hc
        · by_cases c2 : v (k + 1) = v b
          · exact .inr ⟨c2, cfL_no fun c3 => hc ⟨hps, .inr ⟨c2, c3⟩⟩⟩
          · exact .inl (by omega)
      · exact ih.top s (by omega) hps
/-- The first one with the greatest worth, of a row. -/
def bestO (P : Nat → Bool) (v : Nat → Int) : List Nat → Option Nat → Option Nat
  | [], o => o
  | s :: r, none => bestO P v r (if P s then some s else none)
  | s :: r, some b => bestO P v r (if P s = true ∧ v b < v s then some s else some b)
/-- One more. -/
def stepO (P : Nat → Bool) (v : Nat → Int) (o : Option Nat) (s : Nat) : Option Nat :=
  match o with
  | none => if P s then some s else none
  | some b => if P s = true ∧ v b < v s then some s else some b
def foldO (P : Nat → Bool) (v : Nat → Int) (l : List Nat) : Option Nat := l.foldl (stepO P v) none
theorem foldO_snoc (P : Nat → Bool) (v : Nat → Int) (l : List Nat) (s : Nat) : foldO P v (l ++ [s]) = stepO P v (foldO P v l) s := by
  unfold foldO; rw [List.foldl_append]; rfl
theorem foldO_is {P : Nat → Bool} {v : Nat → Int} {L : Nat → List Nat} : ∀ {r : List Nat}, r.Pairwise (fun s t => cfL (L s) (L t) ≤ 0) →
    (match foldO P v r.reverse.reverse with
      | none => ∀ s, s ∈ r → P s = false
      | some b => b ∈ r ∧ P b = true ∧ ∀ s, s ∈ r → P s = true → v s < v b ∨ (v s = v b ∧ cfL (L b) (L s) ≤ 0)) := by
  intro r
  rw [List.reverse_reverse]
  induction hr : r.length generalizing r with
  | zero =>
    intro _
    rw [List.length_eq_zero_iff.1 hr]
    intro s hs; cases hs
  | succ k ih =>
    intro hp
    obtain ⟨l, s, rfl⟩ : ∃ l s, r = l ++ [s] := by
      rcases List.eq_nil_or_concat r with e | ⟨l, s, e⟩
      · rw [e] at hr; cases hr
      · exact ⟨l, s, by rw [e, List.concat_eq_append]⟩
    rw [List.pairwise_append] at hp
    obtain ⟨hp1, _, hp3⟩ := hp
    have ih := ih (r := l) (by simp at hr; exact hr) hp1
    rw [foldO_snoc]
    generalize foldO P v l = o at *
    cases o with
    | none =>
      have ih : ∀ s, s ∈ l → P s = false := ih
      show (match (if P s then some s else none) with | none => _ | some b => _)
      by_cases hs : P s = true
      · rw [if_pos hs]
        refine ⟨by simp, hs, fun t ht hpt => ?_⟩
        rcases List.mem_append.1 ht with h | h
        · rw [ih t h] at hpt; cases hpt
        · have : t = s := by simpa using h
          subst this
          exact .inr ⟨rfl, by rw [cfL_zero.2 rfl]; omega⟩
      · rw [if_neg hs]
        intro t ht
        rcases List.mem_append.1 ht with h | h
        · exact ih t h
        · have : t = s := by simpa using h
          subst this
          exact Bool.eq_false_iff.2 hs
    | some b =>
      obtain ⟨h1, h2, h3⟩ : b ∈ l ∧ P b = true ∧ ∀ s, s ∈ l → P s = true → v s < v b ∨ (v s = v b ∧ cfL (L b) (L s) ≤ 0) := ih
      show (match (if P s = true ∧ v b < v s then some s else some b) with | none => _ | some b => _)
      by_cases hs : P s = true ∧ v b < v s
      · rw [if_pos hs]
        refine ⟨by simp, hs.1, fun t ht hpt => ?_⟩
        rcases List.mem_append.1 ht with h | h
        · rcases h3 t h hpt with k1 | ⟨k1, _⟩ <;> exact .inl (by omega)
        · have : t = s := by simpa using h
          subst this
          exact .inr ⟨rfl, by rw [cfL_zero.2 rfl]; omega⟩
      · rw [if_neg hs]
        refine ⟨List.mem_append_left _ h1, h2, fun t ht hpt => ?_⟩
        rcases List.mem_append.1 ht with h | h
        · exact h3 t h hpt
        · have : t = s := by simpa using h
          subst this
          by_cases c : v t = v b
          · exact .inr ⟨c, hp3 b h1 t (by simp)⟩
          · exact .inl (by have : ¬ v b < v t := fun e => hs ⟨hpt, e⟩; omega)
theorem foldO_best {M : Nat} {P : Nat → Bool} {v : Nat → Int} {L : Nat → List Nat} {r : List Nat} (hp : r.Pairwise (fun s t => cfL (L s) (L t) ≤ 0)) (hm : ∀ s, s ∈ r ↔ s < M) (h0 : P 0 = true) (hM : 0 < M) :
    ∃ b, foldO P v r = some b ∧ IsBest M P v L b := by
  have h := foldO_is (P := P) (v := v) hp
  rw [List.reverse_reverse] at h
  cases e : foldO P v r with
  | none =>
    rw [e] at h
    have := (show ∀ s, s ∈ r → P s = false from h) 0 ((hm 0).2 hM)
    rw [h0] at this; cases this
  | some b =>
    rw [e] at h
    obtain ⟨h1, h2, h3⟩ := h
    exact ⟨b, rfl, (hm b).1 h1, h2, fun s hs => h3 s ((hm s).2 hs)⟩

end Go.Proofs.YtohcnicadbpbbaaDoor
