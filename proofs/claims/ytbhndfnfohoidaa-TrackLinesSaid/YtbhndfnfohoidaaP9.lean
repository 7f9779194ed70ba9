/- No witness tells more than the first one that tells most; the strip between three points: the plain law. -/
import Derived.Test.YtbhndfnfohoidaaP7
namespace Go.Proofs.Ytbhndfnfohoidaa

theorem frac_trans {a b c d e f : Int} (hd : 0 < d) (h1 : a * d ≤ c * b) (h2 : c * f ≤ e * d) (hb : 0 < b) (hf : 0 < f) : a * f ≤ e * b := by
  have k1 : a * d * f ≤ c * b * f := Int.mul_le_mul_of_nonneg_right h1 (by omega)
  have k2 : c * f * b ≤ e * d * b := Int.mul_le_mul_of_nonneg_right h2 (by omega)
  have k3 : (a * f) * d ≤ (e * b) * d := by
    have e1 : (a * f) * d = a * d * f := by grind
    have e2 : (e * b) * d = e * d * b := by grind
    have e3 : c * b * f = c * f * b := by grind
    omega
  exact Int.le_of_mul_le_mul_right k3 hd

/-- No list of those that were seen tells more than what was found. -/
theorem witS_max {n : Nat} {X Y : Nat → Int} (ok : ∀ i, i < n → InP (X i) (Y i)) : ∀ (ls : List (List Nat)) (s : Wst), (∀ L ∈ ls, IsWit n X L) → ((0 ≤ s.N ∧ s.N ≤ 800000) ∧ 0 < s.D ∧ s.D ≤ 400) → ((s.l = [] → s.N = 0)) →
    s.N * (ls.foldl (wstep X Y) s).D ≤ (ls.foldl (wstep X Y) s).N * s.D ∧ (∀ L ∈ ls, LN X Y L * (ls.foldl (wstep X Y) s).D ≤ (ls.foldl (wstep X Y) s).N * LD X Y L) := by
  intro ls
  induction ls with
  | nil => intro s _ _ _; exact ⟨Int.le_refl _, fun L hL => by cases hL⟩
  | cons L ls ih =>
    intro s hl hs h0
    have bl := LND_bd (Y := Y) ok (hl L (List.mem_cons_self ..))
    have hb : ((0 ≤ (wstep X Y s L).N ∧ (wstep X Y s L).N ≤ 800000) ∧ 0 < (wstep X Y s L).D ∧ (wstep X Y s L).D ≤ 400) := by
      unfold wstep; split
      · exact bl
      · exact hs
    have hn : (wstep X Y s L).l = [] → (wstep X Y s L).N = 0 := by
      unfold wstep; split
      · intro e; have := (hl L (List.mem_cons_self ..)).2; simp only at e; rw [e] at this; simp at this
      · exact h0
    obtain ⟨k1, k2⟩ := ih (wstep X Y s L) (fun M hM => hl M (List.mem_cons_of_mem _ hM)) hb hn
    have hf : 0 < (ls.foldl (wstep X Y) (wstep X Y s L)).D := (by
      have key : ∀ (ls : List (List Nat)) (s : Wst), (∀ L ∈ ls, IsWit n X L) → 0 < s.D → 0 < (ls.foldl (wstep X Y) s).D := by
        intro ls
        induction ls with
        | nil => intro s _ h; exact h
        | cons M ls ih2 =>
          intro s hl2 h
          refine ih2 _ (fun Q hQ => hl2 Q (List.mem_cons_of_mem _ hQ)) ?_
          unfold wstep
          split
          · exact (LND_bd (Y := Y) ok (hl2 M (List.mem_cons_self ..))).2.1
          · exact h
      exact key ls _ (fun M hM => hl M (List.mem_cons_of_mem _ hM)) hb.2.1)
    rw [List.foldl_cons]
    have step : s.N * (wstep X Y s L).D ≤ (wstep X Y s L).N * s.D ∧ LN X Y L * (wstep X Y s L).D ≤ (wstep X Y s L).N * LD X Y L := by
      unfold wstep
      split
      · rename_i h
        refine ⟨?_, Int.le_refl _⟩
        rcases h with h | h
        · rw [h0 h, Int.zero_mul]; exact Int.mul_nonneg bl.1.1 (by omega)
        · exact Int.le_of_lt h
      · rename_i h
        refine ⟨Int.le_refl _, ?_⟩
        exact Int.not_lt.1 (fun k => h (.inr k))
    refine ⟨frac_trans hb.2.1 step.1 k1 hs.2.1 hf, fun M hM => ?_⟩
    rcases List.mem_cons.1 hM with rfl | hM
    · exact frac_trans hb.2.1 step.2 k1 bl.2.1 hf
    · exact k2 M hM
theorem witS_own (X Y : Nat → Int) : ∀ (ls : List (List Nat)) (s : Wst), ((ls.foldl (wstep X Y) s) = s) ∨ ((ls.foldl (wstep X Y) s).l ∈ ls ∧ (ls.foldl (wstep X Y) s).N = LN X Y (ls.foldl (wstep X Y) s).l ∧ (ls.foldl (wstep X Y) s).D = LD X Y (ls.foldl (wstep X Y) s).l) := by
  intro ls
  induction ls with
  | nil => intro s; exact .inl rfl
  | cons L ls ih =>
    intro s
    rw [List.foldl_cons]
    rcases ih (wstep X Y s L) with h | ⟨h1, h2⟩
    · rw [h]
      unfold wstep
      split
      · exact .inr ⟨List.mem_cons_self .., rfl, rfl⟩
      · exact .inl rfl
    · exact .inr ⟨List.mem_cons_of_mem _ h1, h2⟩

/-- Which lists are among the witnesses. -/
theorem mem_row2 {X : Nat → Int} {a b : Nat} (hab : a < b) (hx : X a = X b) : ∀ {m : Nat}, b < m → [a, b] ∈ row2 X a m := by
  intro m
  induction m with
  | zero => intro h; omega
  | succ m ih =>
    intro h
    rw [row2, List.mem_append]
    by_cases e : b = m
    · subst e; rw [if_pos ⟨hab, hx⟩]; exact .inr (List.mem_singleton.2 rfl)
    · exact .inl (ih (by omega))
theorem mem_pr2 {X : Nat → Int} {n a b : Nat} (hab : a < b) (hb : b < n) (hx : X a = X b) : ∀ {m : Nat}, a < m → [a, b] ∈ pr2 X n m := by
  intro m
  induction m with
  | zero => intro h; omega
  | succ m ih =>
    intro h
    rw [pr2, List.mem_append]
    by_cases e : a = m
    · subst e; exact .inr (mem_row2 hab hx hb)
    · exact .inl (ih (by omega))
theorem mem_row3 {X : Nat → Int} {a b c : Nat} (h1 : X a < X b) (h2 : X b < X c) : ∀ {m : Nat}, c < m → [a, b, c] ∈ row3 X a b m := by
  intro m
  induction m with
  | zero => intro h; omega
  | succ m ih =>
    intro h
    rw [row3, List.mem_append]
    by_cases e : c = m
    · subst e; rw [if_pos ⟨h1, h2⟩]; exact .inr (List.mem_singleton.2 rfl)
    · exact .inl (ih (by omega))
theorem mem_pl3 {X : Nat → Int} {n a b c : Nat} (h1 : X a < X b) (h2 : X b < X c) (hc : c < n) : ∀ {m : Nat}, b < m → [a, b, c] ∈ pl3 X n a m := by
  intro m
  induction m with
  | zero => intro h; omega
  | succ m ih =>
    intro h
    rw [pl3, List.mem_append]
    by_cases e : b = m
    · subst e; exact .inr (mem_row3 h1 h2 hc)
    · exact .inl (ih (by omega))
theorem mem_cub {X : Nat → Int} {n a b c : Nat} (h1 : X a < X b) (h2 : X b < X c) (hb : b < n) (hc : c < n) : ∀ {m : Nat}, a < m → [a, b, c] ∈ cub X n m := by
  intro m
  induction m with
  | zero => intro h; omega
  | succ m ih =>
    intro h
    rw [cub, List.mem_append]
    by_cases e : a = m
    · subst e; exact .inr (mem_pl3 h1 h2 hc hb)
    · exact .inl (ih (by omega))
theorem mem_wits2 {X : Nat → Int} {n a b : Nat} (hab : a < b) (hb : b < n) (hx : X a = X b) : [a, b] ∈ wits n X := List.mem_append.2 (.inl (mem_pr2 hab hb hx (by omega)))
theorem mem_wits3 {X : Nat → Int} {n a b c : Nat} (ha : a < n) (hb : b < n) (hc : c < n) (h1 : X a < X b) (h2 : X b < X c) : [a, b, c] ∈ wits n X := List.mem_append.2 (.inr (mem_cub h1 h2 hb hc ha))

/-- The height of the second above the line through the others, times how far these are apart. -/
def dt (X Y : Nat → Int) (i j k : Nat) : Int := Y j * (X k - X i) - Y i * (X k - X j) - Y k * (X j - X i)
theorem t3_dt {X Y : Nat → Int} {a b c : Nat} (h : X a < X c) : ∃ g : Int, 0 < g ∧ t3r X Y a b c * g = dt X Y a b c ∧ t3d X Y a c * g = X c - X a := by
  have hd : rwD (X a) (Y a) (X c) (Y c) ≠ 0 := by unfold rwD; omega
  refine ⟨gk (rwA (X a) (Y a) (X c) (Y c)) (rwB (X a) (Y a) (X c) (Y c)) (rwD (X a) (Y a) (X c) (Y c)), ?_, ?_, mkD_mul _ _ _⟩
  · have g0 := g3_pos (rwA (X a) (Y a) (X c) (Y c)) (rwB (X a) (Y a) (X c) (Y c)) hd
    unfold gk
    rw [if_neg (by unfold rwD; omega)]
    exact g0
  · have e1 := mkA_mul (rwA (X a) (Y a) (X c) (Y c)) (rwB (X a) (Y a) (X c) (Y c)) (rwD (X a) (Y a) (X c) (Y c))
    have e2 := mkB_mul (rwA (X a) (Y a) (X c) (Y c)) (rwB (X a) (Y a) (X c) (Y c)) (rwD (X a) (Y a) (X c) (Y c))
    have e3 := mkD_mul (rwA (X a) (Y a) (X c) (Y c)) (rwB (X a) (Y a) (X c) (Y c)) (rwD (X a) (Y a) (X c) (Y c))
    unfold t3r rs thA thB thD dt
    generalize mkA (rwA (X a) (Y a) (X c) (Y c)) (rwB (X a) (Y a) (X c) (Y c)) (rwD (X a) (Y a) (X c) (Y c)) = p at *
    generalize mkB (rwA (X a) (Y a) (X c) (Y c)) (rwB (X a) (Y a) (X c) (Y c)) (rwD (X a) (Y a) (X c) (Y c)) = q at *
    generalize mkD (rwA (X a) (Y a) (X c) (Y c)) (rwB (X a) (Y a) (X c) (Y c)) (rwD (X a) (Y a) (X c) (Y c)) = r at *
    generalize gk (rwA (X a) (Y a) (X c) (Y c)) (rwB (X a) (Y a) (X c) (Y c)) (rwD (X a) (Y a) (X c) (Y c)) = g at *
    unfold rwA at e1
    unfold rwB at e2
    unfold rwD at e3
    have : (Y b * r - p * X b - q) * g = Y b * (r * g) - (p * g) * X b - q * g := by grind
    rw [this, e1, e2, e3]
    grind

end Go.Proofs.Ytbhndfnfohoidaa
