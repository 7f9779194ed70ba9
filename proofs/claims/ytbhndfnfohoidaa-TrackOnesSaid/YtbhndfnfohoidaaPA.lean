/- No witness tells more than the first one that tells most; the strip between three points: the plain law. What the best witness tells bounds all points: the plain law. All points lie between the line through the outer ones and the one in the middle; all points let the line through the middle of two be as flat as it is: the plain law. The axis of three points has the width that they tell: the plain law. The line through the middle of two points of one X has the width that they tell: the plain law. The axis has the least width, and is a line: the plain law. -/
import Derived.Test.YtbhndfnfohoidaaQA
import Derived.Test.YtbhndfnfohoidaaWA
import Derived.Test.YtbhndfnfohoidaaW13
import Derived.Test.YtbhndfnfohoidaaWB
namespace Go.Proofs.Ytbhndfnfohoidaa

theorem frac_trans {a b c d e f : Int} (hd : 0 < d) (h1 : a * d ≤ c * b) (h2 : c * f ≤ e * d) (hb : 0 < b) (hf : 0 < f) : a * f ≤ e * b := by
  have k1 : a * d * f ≤ c * b * f := Int.mul_le_mul_of_nonneg_right h1 (by omega)
  have k2 : c * f * b ≤ e * d * b := Int.mul_le_mul_of_nonneg_right h2 (by omega)
  have k3 : (a * f) * d ≤ (e * b) * d := by
    have e1 : (a * f) * d = a * d * f := by grind
    have e2 : (e * b) * d = e * d * b := by grind
    have e3 : c * b * f = c * f * b := by grind
    omega
  exact Int.le_of_mul_le_mul_right k3 hd

/-- No list of those that were seen tells more than what was found. -/
theorem witS_max {n : Nat} {X Y : Nat → Int} (ok : ∀ i, i < n → InP (X i) (Y i)) : ∀ (ls : List (List Nat)) (s : Wst), (∀ L ∈ ls, IsWit n X L) → ((0 ≤ s.N ∧ s.N ≤ 800000) ∧ 0 < s.D ∧ s.D ≤ 400) → ((s.l = [] → s.N = 0)) →
    s.N * (ls.foldl (wstep X Y) s).D ≤ (ls.foldl (wstep X Y) s).N * s.D ∧ (∀ L ∈ ls, LN X Y L * (ls.foldl (wstep X Y) s).D ≤ (ls.foldl (wstep X Y) s).N * LD X Y L) := by
  intro ls
  induction ls with
  | nil => intro s _ _ _; exact ⟨Int.le_refl _, fun L hL => by cases hL⟩
  | cons L ls ih =>
    intro s hl hs h0
    have bl := LND_bd (Y := Y) ok (hl L (List.mem_cons_self ..))
    have hb : ((0 ≤ (wstep X Y s L).N ∧ (wstep X Y s L).N ≤ 800000) ∧ 0 < (wstep X Y s L).D ∧ (wstep X Y s L).D ≤ 400) := by
      unfold wstep; split
      · exact bl
      · exact hs
    have hn : (wstep X Y s L).l = [] → (wstep X Y s L).N = 0 := by
      unfold wstep; split
      · intro e; have := (hl L (List.mem_cons_self ..)).2; simp only at e; rw [e] at this; simp at this
      · exact h0
    obtain ⟨k1, k2⟩ := ih (wstep X Y s L) (fun M hM => hl M (List.mem_cons_of_mem _ hM)) hb hn
    have hf : 0 < (ls.foldl (wstep X Y) (wstep X Y s L)).D := (by
      have key : ∀ (ls : List (List Nat)) (s : Wst), (∀ L ∈ ls, IsWit n X L) → 0 < s.D → 0 < (ls.foldl (wstep X Y) s).D := by
        intro ls
        induction ls with
        | nil => intro s _ h; exact h
        | cons M ls ih2 =>
          intro s hl2 h
          refine ih2 _ (fun Q hQ => hl2 Q (List.mem_cons_of_mem _ hQ)) ?_
          unfold wstep
          split
          · exact (LND_bd (Y := Y) ok (hl2 M (List.mem_cons_self ..))).2.1
          · exact h
      exact key ls _ (fun M hM => hl M (List.mem_cons_of_mem _ hM)) hb.2.1)
    rw [List.foldl_cons]
    have step : s.N * (wstep X Y s L).D ≤ (wstep X Y s L).N * s.D ∧ LN X Y L * (wstep X Y s L).D ≤ (wstep X Y s L).N * LD X Y L := by
      unfold wstep
      split
      · rename_i h
        refine ⟨?_, Int.le_refl _⟩
        rcases h with h | h
        · rw [h0 h, Int.zero_mul]; exact Int.mul_nonneg bl.1.1 (by omega)
        · exact Int.le_of_lt h
      · rename_i h
        refine ⟨Int.le_refl _, ?_⟩
        exact Int.not_lt.1 (fun k => h (.inr k))
    refine ⟨frac_trans hb.2.1 step.1 k1 hs.2.1 hf, fun M hM => ?_⟩
    rcases List.mem_cons.1 hM with rfl | hM
    · exact frac_trans hb.2.1 step.2 k1 bl.2.1 hf
    · exact k2 M hM
theorem witS_own (X Y : Nat → Int) : ∀ (ls : List (List Nat)) (s : Wst), ((ls.foldl (wstep X Y) s) = s) ∨ ((ls.foldl (wstep X Y) s).l ∈ ls ∧ (ls.foldl (wstep X Y) s).N = LN X Y (ls.foldl (wstep X Y) s).l ∧ (ls.foldl (wstep X Y) s).D = LD X Y (ls.foldl (wstep X Y) s).l) := by
  intro ls
  induction ls with
  | nil => intro s; exact .inl rfl
  | cons L ls ih =>
    intro s
    rw [List.foldl_cons]
    rcases ih (wstep X Y s L) with h | ⟨h1, h2⟩
    · rw [h]
      unfold wstep
      split
      · exact .inr ⟨List.mem_cons_self .., rfl, rfl⟩
      · exact .inl rfl
    · exact .inr ⟨List.mem_cons_of_mem _ h1, h2⟩

/-- Which lists are among the witnesses. -/
theorem mem_row2 {X : Nat → Int} {a b : Nat} (hab : a < b) (hx : X a = X b) : ∀ {m : Nat}, b < m → [a, b] ∈ row2 X a m := by
  intro m
  induction m with
  | zero => intro h; omega
  | succ m ih =>
    intro h
    rw [row2, List.mem_append]
    by_cases e : b = m
    · subst e; rw [if_pos ⟨hab, hx⟩]; exact .inr (List.mem_singleton.2 rfl)
    · exact .inl (ih (by omega))
theorem mem_pr2 {X : Nat → Int} {n a b : Nat} (hab : a < b) (hb : b < n) (hx : X a = X b) : ∀ {m : Nat}, a < m → [a, b] ∈ pr2 X n m := by
  intro m
  induction m with
  | zero => intro h; omega
  | succ m ih =>
    intro h
    rw [pr2, List.mem_append]
    by_cases e : a = m
    · subst e; exact .inr (mem_row2 hab hx hb)
    · exact .inl (ih (by omega))
theorem mem_row3 {X : Nat → Int} {a b c : Nat} (h1 : X a < X b) (h2 : X b < X c) : ∀ {m : Nat}, c < m → [a, b, c] ∈ row3 X a b m := by
  intro m
  induction m with
  | zero => intro h; omega
  | succ m ih =>
    intro h
    rw [row3, List.mem_append]
    by_cases e : c = m
    · subst e; rw [if_pos ⟨h1, h2⟩]; exact .inr (List.mem_singleton.2 rfl)
    · exact .inl (ih (by omega))
theorem mem_pl3 {X : Nat → Int} {n a b c : Nat} (h1 : X a < X b) (h2 : X b < X c) (hc : c < n) : ∀ {m : Nat}, b < m → [a, b, c] ∈ pl3 X n a m := by
  intro m
  induction m with
  | zero => intro h; omega
  | succ m ih =>
    intro h
    rw [pl3, List.mem_append]
    by_cases e : b = m
    · subst e; exact .inr (mem_row3 h1 h2 hc)
    · exact .inl (ih (by omega))
theorem mem_cub {X : Nat → Int} {n a b c : Nat} (h1 : X a < X b) (h2 : X b < X c) (hb : b < n) (hc : c < n) : ∀ {m : Nat}, a < m → [a, b, c] ∈ cub X n m := by
  intro m
  induction m with
  | zero => intro h; omega
  | succ m ih =>
    intro h
    rw [cub, List.mem_append]
    by_cases e : a = m
    · subst e; exact .inr (mem_pl3 h1 h2 hc hb)
    · exact .inl (ih (by omega))
theorem mem_wits2 {X : Nat → Int} {n a b : Nat} (hab : a < b) (hb : b < n) (hx : X a = X b) : [a, b] ∈ wits n X := List.mem_append.2 (.inl (mem_pr2 hab hb hx (by omega)))
theorem mem_wits3 {X : Nat → Int} {n a b c : Nat} (ha : a < n) (hb : b < n) (hc : c < n) (h1 : X a < X b) (h2 : X b < X c) : [a, b, c] ∈ wits n X := List.mem_append.2 (.inr (mem_cub h1 h2 hb hc ha))

/-- The height of the second above the line through the others, times how far these are apart. -/
def dt (X Y : Nat → Int) (i j k : Nat) : Int := Y j * (X k - X i) - Y i * (X k - X j) - Y k * (X j - X i)
theorem t3_dt {X Y : Nat → Int} {a b c : Nat} (h : X a < X c) : ∃ g : Int, 0 < g ∧ t3r X Y a b c * g = dt X Y a b c ∧ t3d X Y a c * g = X c - X a := by
  have hd : rwD (X a) (Y a) (X c) (Y c) ≠ 0 := by unfold rwD; omega
  refine ⟨gk (rwA (X a) (Y a) (X c) (Y c)) (rwB (X a) (Y a) (X c) (Y c)) (rwD (X a) (Y a) (X c) (Y c)), ?_, ?_, mkD_mul _ _ _⟩
  · have g0 := g3_pos (rwA (X a) (Y a) (X c) (Y c)) (rwB (X a) (Y a) (X c) (Y c)) hd
    unfold gk
    rw [if_neg (by unfold rwD; omega)]
    exact g0
  · have e1 := mkA_mul (rwA (X a) (Y a) (X c) (Y c)) (rwB (X a) (Y a) (X c) (Y c)) (rwD (X a) (Y a) (X c) (Y c))
    have e2 := mkB_mul (rwA (X a) (Y a) (X c) (Y c)) (rwB (X a) (Y a) (X c) (Y c)) (rwD (X a) (Y a) (X c) (Y c))
    have e3 := mkD_mul (rwA (X a) (Y a) (X c) (Y c)) (rwB (X a) (Y a) (X c) (Y c)) (rwD (X a) (Y a) (X c) (Y c))
    unfold t3r rs thA thB thD dt
    generalize mkA (rwA (X a) (Y a) (X c) (Y c)) (rwB (X a) (Y a) (X c) (Y c)) (rwD (X a) (Y a) (X c) (Y c)) = p at *
    generalize mkB (rwA (X a) (Y a) (X c) (Y c)) (rwB (X a) (Y a) (X c) (Y c)) (rwD (X a) (Y a) (X c) (Y c)) = q at *
    generalize mkD (rwA (X a) (Y a) (X c) (Y c)) (rwB (X a) (Y a) (X c) (Y c)) (rwD (X a) (Y a) (X c) (Y c)) = r at *
    generalize gk (rwA (X a) (Y a) (X c) (Y c)) (rwB (X a) (Y a) (X c) (Y c)) (rwD (X a) (Y a) (X c) (Y c)) = g at *
    unfold rwA at e1
    unfold rwB at e2
    unfold rwD at e3
    have : (Y b * r - p * X b - q) * g = Y b * (r * g) - (p * g) * X b - q * g := by grind
    rw [this, e1, e2, e3]
    grind

end Go.Proofs.Ytbhndfnfohoidaa

namespace Go.Proofs.Ytbhndfnfohoidaa

theorem red_le {n d n' d' : Int} (hd : 0 < d) (hd' : 0 < d') : rN n d * rD n' d' ≤ rN n' d' * rD n d ↔ n * d' ≤ n' * d := by
  rw [← Int.not_lt, ← Int.not_lt, red_lt hd' hd]
theorem isWit2 {n : Nat} {X : Nat → Int} {a b : Nat} (h : IsWit n X [a, b]) : a < n ∧ b < n ∧ a ≠ b ∧ X a = X b := by
  have h1 := h.1
  have e0 : nf [a, b] 0 = (a : Int) := rfl
  have e1 : nf [a, b] 1 = (b : Int) := rfl
  unfold witB goodW goodAt anyI at_ at h1
  simp [List.range_succ, e0, e1] at h1
  omega
theorem isWit3 {n : Nat} {X : Nat → Int} {a b c : Nat} (h : IsWit n X [a, b, c]) : a < n ∧ b < n ∧ c < n ∧ X a < X b ∧ X b < X c := by
  have h1 := h.1
  have e0 : nf [a, b, c] 0 = (a : Int) := rfl
  have e1 : nf [a, b, c] 1 = (b : Int) := rfl
  have e2 : nf [a, b, c] 2 = (c : Int) := rfl
  unfold witB goodW goodAt anyI at_ at h1
  simp [List.range_succ, e0, e1, e2] at h1
  omega
theorem told2 (X Y : Nat → Int) (a b : Nat) : LN X Y [a, b] = rN (ab (Y a - Y b)) 2 ∧ LD X Y [a, b] = rD (ab (Y a - Y b)) 2 := ⟨rfl, rfl⟩
theorem told3 {X Y : Nat → Int} {a b c : Nat} (h : X a < X c) : LN X Y [a, b, c] = rN (ab (dt X Y a b c)) (2 * (X c - X a)) ∧ LD X Y [a, b, c] = rD (ab (dt X Y a b c)) (2 * (X c - X a)) := by
  obtain ⟨g, g0, e1, e2⟩ := t3_dt (Y := Y) (b := b) h
  have hd : 0 < t3d X Y a c := by
    rcases Int.lt_or_le 0 (t3d X Y a c) with k | k
    · exact k
    · have := Int.mul_nonneg (show 0 ≤ -t3d X Y a c by omega) (show 0 ≤ g by omega)
      rw [Int.neg_mul, e2] at this
      omega
  have hab : ab (dt X Y a b c) = ab (t3r X Y a b c) * g := by
    rw [← e1, ab_mul]
    congr 1
    unfold ab; omega
  refine red_eq (show 0 < 2 * t3d X Y a c by omega) (show 0 < 2 * (X c - X a) by omega) ?_
  show ab (t3r X Y a b c) * (2 * (X c - X a)) = ab (dt X Y a b c) * (2 * t3d X Y a c)
  rw [hab, ← e2]
  generalize ab (t3r X Y a b c) = p
  generalize t3d X Y a c = q
  grind

/-- Nothing that two or three points tell is more than v / e. -/
structure Top (n : Nat) (X Y : Nat → Int) (v e : Int) : Prop where
  two : ∀ i k, i < n → k < n → X i = X k → ab (Y i - Y k) * e ≤ v * 2
  tri : ∀ i j k, i < n → j < n → k < n → X i < X j → X j < X k → ab (dt X Y i j k) * e ≤ v * (2 * (X k - X i))
theorem top_of {n : Nat} {X Y : Nat → Int} {v e : Int} (hv : 0 ≤ v) (he : 0 < e) (h : ∀ L ∈ wits n X, LN X Y L * rD v e ≤ rN v e * LD X Y L) : Top n X Y v e := by
  have key : ∀ i k, i < k → k < n → X i = X k → ab (Y i - Y k) * e ≤ v * 2 := fun i k hik hk hx => by
    have := h _ (mem_wits2 hik hk hx)
    rw [(told2 X Y i k).1, (told2 X Y i k).2] at this
    exact (red_le (by omega) he).1 this
  refine ⟨fun i k hi hk hx => ?_, fun i j k hi hj hk h1 h2 => ?_⟩
  · rcases Nat.lt_trichotomy i k with h1 | h1 | h1
    · exact key i k h1 hk hx
    · subst h1
      have : ab (Y i - Y i) = 0 := by unfold ab; omega
      rw [this, Int.zero_mul]
      omega
    · have := key k i h1 hi hx.symm
      have e1 : ab (Y k - Y i) = ab (Y i - Y k) := by unfold ab; omega
      rw [e1] at this
      exact this
  · have := h _ (mem_wits3 hi hj hk h1 h2)
    rw [(told3 (Y := Y) (b := j) (show X i < X k by omega)).1, (told3 (Y := Y) (b := j) (show X i < X k by omega)).2] at this
    exact (red_le (by omega) he).1 this

/-- What the search finds: nothing, two points, or three. -/
theorem wit_cases {n : Nat} {X Y : Nat → Int} (V : VP n X Y) :
    ((witS X Y (wits n X)).l = [] ∧ wits n X = [] ∧ (witS X Y (wits n X)).N = 0 ∧ (witS X Y (wits n X)).D = 1) ∨
    (∃ a b, (witS X Y (wits n X)).l = [a, b] ∧ (a < n ∧ b < n ∧ a ≠ b ∧ X a = X b) ∧ (witS X Y (wits n X)).N = rN (ab (Y a - Y b)) 2 ∧ (witS X Y (wits n X)).D = rD (ab (Y a - Y b)) 2 ∧ Top n X Y (ab (Y a - Y b)) 2) ∨
    (∃ a b c, (witS X Y (wits n X)).l = [a, b, c] ∧ (a < n ∧ b < n ∧ c < n ∧ X a < X b ∧ X b < X c) ∧ (witS X Y (wits n X)).N = rN (ab (dt X Y a b c)) (2 * (X c - X a)) ∧ (witS X Y (wits n X)).D = rD (ab (dt X Y a b c)) (2 * (X c - X a)) ∧ Top n X Y (ab (dt X Y a b c)) (2 * (X c - X a))) := by
  have hm := (witS_max (Y := Y) V.ok (wits n X) wst0 wits_wit ⟨⟨by decide, by decide⟩, by decide, by decide⟩ (fun _ => rfl)).2
  rcases witS_own X Y (wits n X) wst0 with h | ⟨h1, h2, h3⟩
  · refine .inl ?_
    have hl : (witS X Y (wits n X)).l = [] := by unfold witS; rw [h]; rfl
    refine ⟨hl, ?_, by unfold witS; rw [h]; rfl, by unfold witS; rw [h]; rfl⟩
    rcases List.eq_nil_or_concat (wits n X) with e | ⟨ls, L, e⟩
    · exact e
    · have hw : IsWit n X L := wits_wit L (by rw [e]; simp)
      rw [e, List.concat_eq_append, witS_snoc] at hl
      unfold wstep at hl
      split at hl
      · simp only at hl; have := hw.2; rw [hl] at this; simp at this
      · rename_i k; exact absurd (.inl hl) k
  · have hw := wits_wit _ h1
    change (witS X Y (wits n X)).l ∈ wits n X at h1
    change (witS X Y (wits n X)).N = LN X Y (witS X Y (wits n X)).l at h2
    change (witS X Y (wits n X)).D = LD X Y (witS X Y (wits n X)).l at h3
    change ∀ L ∈ wits n X, LN X Y L * (witS X Y (wits n X)).D ≤ (witS X Y (wits n X)).N * LD X Y L at hm
    change IsWit n X (witS X Y (wits n X)).l at hw
    rw [h2, h3] at hm ⊢
    generalize (witS X Y (wits n X)).l = l at *
    match l, hw with
    | [a, b], hw =>
      have k := isWit2 hw
      rw [(told2 X Y a b).1, (told2 X Y a b).2] at hm ⊢
      exact .inr (.inl ⟨a, b, rfl, k, rfl, rfl, top_of (ab_nonneg _) (by omega) hm⟩)
    | [a, b, c], hw =>
      have k := isWit3 hw
      obtain ⟨e1, e2⟩ := told3 (Y := Y) (b := b) (show X a < X c by omega)
      rw [e1, e2] at hm ⊢
      exact .inr (.inr ⟨a, b, c, rfl, k, rfl, rfl, top_of (ab_nonneg _) (by omega) hm⟩)
    | [], hw => exact absurd hw.2 (by simp)
    | [_], hw => exact absurd hw.2 (by simp)
    | _ :: _ :: _ :: _ :: _, hw => exact absurd hw.2 (by simp)
end Go.Proofs.Ytbhndfnfohoidaa

namespace Go.Proofs.Ytbhndfnfohoidaa

theorem ab_le {x m : Int} : ab x ≤ m ↔ -m ≤ x ∧ x ≤ m := by unfold ab; omega
theorem div_le {x m d : Int} (hd : 0 < d) (h : x * d ≤ m * d) : x ≤ m := Int.le_of_mul_le_mul_right h hd

/-- The heights above the line through two points change what three tell by what they are. -/
theorem dt_h (X Y : Nat → Int) (a c i j k : Nat) : (X c - X a) * dt X Y i j k = dt X Y a j c * (X k - X i) - dt X Y a i c * (X k - X j) - dt X Y a k c * (X j - X i) := by unfold dt; grind
theorem dt_at (X Y : Nat → Int) (a c : Nat) : dt X Y a a c = 0 ∧ dt X Y a c c = 0 := by unfold dt; constructor <;> grind

theorem tri_raw {n : Nat} {X Y : Nat → Int} {m d : Int} (hd : 0 < d) (T : Top n X Y m (2 * d)) {i j k : Nat} (hi : i < n) (hj : j < n) (hk : k < n) (h1 : X i < X j) (h2 : X j < X k) : -(m * (X k - X i)) ≤ d * dt X Y i j k ∧ d * dt X Y i j k ≤ m * (X k - X i) := by
  have h := T.tri i j k hi hj hk h1 h2
  have e : ab (dt X Y i j k) * d ≤ m * (X k - X i) := by
    have : ab (dt X Y i j k) * (2 * d) = 2 * (ab (dt X Y i j k) * d) := by grind
    have : m * (2 * (X k - X i)) = 2 * (m * (X k - X i)) := by grind
    omega
  rw [← ab_le, ab_mul]
  have : ab d = d := by unfold ab; omega
  rw [this, Int.mul_comm]
  exact e
theorem two_raw {n : Nat} {X Y : Nat → Int} {m d : Int} (hd : 0 < d) (T : Top n X Y m (2 * d)) {i k : Nat} (hi : i < n) (hk : k < n) (h : X i = X k) : -m ≤ (Y i - Y k) * d ∧ (Y i - Y k) * d ≤ m := by
  have h := T.two i k hi hk h
  have e : ab (Y i - Y k) * d ≤ m := by
    have : ab (Y i - Y k) * (2 * d) = 2 * (ab (Y i - Y k) * d) := by grind
    omega
  rw [← ab_le, ab_mul]
  have : ab d = d := by unfold ab; omega
  rw [this]
  exact e

/-- Above the line through the outer ones, and not above the one in the middle. -/
theorem strip {n : Nat} {X Y : Nat → Int} {a b c : Nat} (ha : a < n) (hb : b < n) (hc : c < n) (h1 : X a < X b) (h2 : X b < X c) (T : Top n X Y (dt X Y a b c) (2 * (X c - X a))) {q : Nat} (hq : q < n) : 0 ≤ dt X Y a q c ∧ dt X Y a q c ≤ dt X Y a b c := by
  have hd : 0 < X c - X a := by omega
  have za := (dt_at X Y a c).1
  have zc := (dt_at X Y a c).2
  have tr := fun {i j k : Nat} (hi : i < n) (hj : j < n) (hk : k < n) (h1 : X i < X j) (h2 : X j < X k) => (dt_h X Y a c i j k) ▸ tri_raw hd T hi hj hk h1 h2
  have pr := fun {i k : Nat} (hi : i < n) (hk : k < n) (h : X i = X k) => two_raw hd T hi hk h
  have same : ∀ i k, X i = X k → dt X Y a i c - dt X Y a k c = (Y i - Y k) * (X c - X a) := fun i k h => by unfold dt; rw [h]; grind
  generalize hm : dt X Y a b c = m at *
  generalize hh : dt X Y a q c = h at *
  constructor
  · refine Int.not_lt.1 fun hn => ?_
    rcases Int.lt_trichotomy (X q) (X b) with k | k | k
    · have := (tr hq hb hc k h2).2
      rw [hm, hh, zc] at this
      have p1 : 0 < (-h) * (X c - X b) := Int.mul_pos (by omega) (by omega)
      rw [Int.neg_mul] at p1
      omega
    · have s := same q b k
      have := (pr hq hb k).1
      rw [← s, hh, hm] at this
      omega
    · have := (tr ha hb hq h1 k).2
      rw [hm, hh, za] at this
      have p1 : 0 < (-h) * (X b - X a) := Int.mul_pos (by omega) (by omega)
      rw [Int.neg_mul] at p1
      omega
  · refine Int.not_lt.1 fun hn => ?_
    rcases Int.lt_trichotomy (X q) (X a) with k | k | k
    · have := (tr hq ha hb k h1).1
      rw [hm, hh, za] at this
      have p1 : 0 < (h - m) * (X b - X a) := Int.mul_pos (by omega) (by omega)
      have e1 : (h - m) * (X b - X a) = h * (X b - X a) - m * (X b - X q) + m * (X a - X q) := by grind
      omega
    · have s := same q a k
      have := (pr hq ha k).2
      rw [← s, hh, za] at this
      omega
    · rcases Int.lt_trichotomy (X q) (X c) with k2 | k2 | k2
      · have := (tr ha hq hc k k2).2
        rw [hh, za, zc] at this
        have := div_le (x := h) (m := m) hd (by omega)
        omega
      · have s := same q c k2
        have := (pr hq hc k2).2
        rw [← s, hh, zc] at this
        omega
      · have := (tr hb hc hq h2 k2).1
        rw [hm, hh, zc] at this
        have p1 : 0 < (h - m) * (X c - X b) := Int.mul_pos (by omega) (by omega)
        have e1 : (h - m) * (X c - X b) = h * (X c - X b) - m * (X q - X b) + m * (X q - X c) := by grind
        omega
end Go.Proofs.Ytbhndfnfohoidaa

namespace Go.Proofs.Ytbhndfnfohoidaa

theorem ab_pos {x g : Int} (hg : 0 < g) : ab (x * g) = ab x * g := by
  rw [ab_mul]
  congr 1
  unfold ab; omega
theorem maxA_eq {n : Nat} {X Y : Nat → Int} {A B D m : Int} (hm : 0 ≤ m) : ∀ {k : Nat}, (∀ i, i < k → ab (rs (X i) (Y i) A B D) ≤ m) → (∃ i, i < k ∧ ab (rs (X i) (Y i) A B D) = m) → k ≤ n → maxA X Y A B D k = m := by
  have up : ∀ {k : Nat}, (∀ i, i < k → ab (rs (X i) (Y i) A B D) ≤ m) → maxA X Y A B D k ≤ m := by
    intro k
    induction k with
    | zero => intro _; exact hm
    | succ k ih =>
      intro h
      have := ih (fun i hi => h i (by omega))
      have := h k (by omega)
      rw [maxA]; omega
  have lo : ∀ {k i : Nat}, i < k → ab (rs (X i) (Y i) A B D) ≤ maxA X Y A B D k := by
    intro k
    induction k with
    | zero => intro i h; omega
    | succ k ih =>
      intro i h
      rw [maxA]
      by_cases e : i = k
      · subst e; omega
      · have := ih (i := i) (by omega); omega
  intro k h ⟨i, hi, e⟩ _
  have := up h
  have := lo (k := k) hi
  omega
theorem maxA_le {X Y : Nat → Int} {A B D : Int} : ∀ {k i : Nat}, i < k → ab (rs (X i) (Y i) A B D) ≤ maxA X Y A B D k := by
  intro k
  induction k with
  | zero => intro i h; omega
  | succ k ih =>
    intro i h
    rw [maxA]
    by_cases e : i = k
    · subst e; omega
    · have := ih (i := i) (by omega); omega

/-- The width of a line given by numbers that are not in their least form. -/
theorem made_width {n : Nat} {X Y : Nat → Int} {a b d m : Int} (hd : 0 < d) (h : ∀ i, i < n → ab (rs (X i) (Y i) a b d) ≤ m) (he : ∃ i, i < n ∧ ab (rs (X i) (Y i) a b d) = m) :
    rN (maxA X Y (mkA a b d) (mkB a b d) (mkD a b d) n) (mkD a b d) = rN m d ∧ rD (maxA X Y (mkA a b d) (mkB a b d) (mkD a b d) n) (mkD a b d) = rD m d := by
  have g0 : 0 < gk a b d := by
    have g0 := g3_pos a b (show d ≠ 0 by omega)
    unfold gk
    rw [if_neg (by omega)]
    exact g0
  have e1 := mkA_mul a b d
  have e2 := mkB_mul a b d
  have e3 := mkD_mul a b d
  have hD := mkD_pos a b (show d ≠ 0 by omega)
  have hr : ∀ x y, rs x y (mkA a b d) (mkB a b d) (mkD a b d) * gk a b d = rs x y a b d := fun x y => by
    unfold rs
    have : (y * mkD a b d - mkA a b d * x - mkB a b d) * gk a b d = y * (mkD a b d * gk a b d) - (mkA a b d * gk a b d) * x - mkB a b d * gk a b d := by
      generalize mkD a b d = p
      generalize mkA a b d = q
      generalize mkB a b d = r
      generalize gk a b d = g
      grind
    rw [this, e1, e2, e3]
  obtain ⟨i, hi, hie⟩ := he
  have hq : m = ab (rs (X i) (Y i) (mkA a b d) (mkB a b d) (mkD a b d)) * gk a b d := by rw [← ab_pos g0, hr, hie]
  have mx : maxA X Y (mkA a b d) (mkB a b d) (mkD a b d) n = ab (rs (X i) (Y i) (mkA a b d) (mkB a b d) (mkD a b d)) := by
    refine maxA_eq (n := n) (ab_nonneg _) (fun k hk => ?_) ⟨i, hi, rfl⟩ (Nat.le_refl n)
    refine div_le g0 ?_
    rw [← hq, ← ab_pos g0, hr]
    exact h k hk
  rw [mx]
  refine red_eq hD hd ?_
  rw [hq]
  generalize ab (rs (X i) (Y i) (mkA a b d) (mkB a b d) (mkD a b d)) = p at *
  have : p * d = p * (mkD a b d * gk a b d) := by rw [e3]
  rw [this]
  generalize mkD a b d = q
  generalize gk a b d = g
  grind

theorem strip2 {n : Nat} {X Y : Nat → Int} {a b c : Nat} (ha : a < n) (hb : b < n) (hc : c < n) (h1 : X a < X b) (h2 : X b < X c) (T : Top n X Y (ab (dt X Y a b c)) (2 * (X c - X a))) {q : Nat} (hq : q < n) : ab (2 * dt X Y a q c - dt X Y a b c) ≤ ab (dt X Y a b c) := by
  rcases ab_cases (dt X Y a b c) with ⟨k, e⟩ | ⟨k, e⟩
  · rw [e] at T ⊢
    have := strip ha hb hc h1 h2 T hq
    rw [ab_le]
    omega
  · have ng : ∀ i j k, dt X (fun i => -Y i) i j k = -dt X Y i j k := fun i j k => by unfold dt; grind
    have T' : Top n X (fun i => -Y i) (dt X (fun i => -Y i) a b c) (2 * (X c - X a)) := by
      rw [ng, ← e]
      refine ⟨fun i k hi hk hx => ?_, fun i j k hi hj hk h1 h2 => ?_⟩
      · have := T.two i k hi hk hx
        have e1 : ab (-Y i - -Y k) = ab (Y i - Y k) := by unfold ab; omega
        rw [e1]; exact this
      · rw [ng, ab_neg]; exact T.tri i j k hi hj hk h1 h2
    have := strip ha hb hc h1 h2 T' hq
    rw [ng, ng] at this
    rw [e, ab_le]
    omega

/-- The line through the outer ones, moved half way to the one in the middle. -/
theorem axis3 {n : Nat} {X Y : Nat → Int} (ok : ∀ i, i < n → InP (X i) (Y i)) {a b c : Nat} (ha : a < n) (hb : b < n) (hc : c < n) (h1 : X a < X b) (h2 : X b < X c) (T : Top n X Y (ab (dt X Y a b c)) (2 * (X c - X a)))
    {A B D r : Int} (hA : A = thA (X a) (Y a) (X c) (Y c)) (hB : B = thB (X a) (Y a) (X c) (Y c)) (hD : D = thD (X a) (Y a) (X c) (Y c)) (hr : r = rs (X b) (Y b) A B D) :
    (rN (maxA X Y (mkA (2 * A) (2 * B + r) (2 * D)) (mkB (2 * A) (2 * B + r) (2 * D)) (mkD (2 * A) (2 * B + r) (2 * D)) n) (mkD (2 * A) (2 * B + r) (2 * D)) = rN (ab (dt X Y a b c)) (2 * (X c - X a)) ∧
    rD (maxA X Y (mkA (2 * A) (2 * B + r) (2 * D)) (mkB (2 * A) (2 * B + r) (2 * D)) (mkD (2 * A) (2 * B + r) (2 * D)) n) (mkD (2 * A) (2 * B + r) (2 * D)) = rD (ab (dt X Y a b c)) (2 * (X c - X a))) ∧
    InL (mkA (2 * A) (2 * B + r) (2 * D)) (mkB (2 * A) (2 * B + r) (2 * D)) (mkD (2 * A) (2 * B + r) (2 * D)) ∧ ((-2000 ≤ A ∧ A ≤ 2000) ∧ (-400000 ≤ B ∧ B ≤ 400000) ∧ (0 < D ∧ D ≤ 200) ∧ -800000 ≤ r ∧ r ≤ 800000) := by
  have hac : X a ≠ X c := by omega
  obtain ⟨pA, pB, pD⟩ := th_bd (ok a ha) (ok c hc) hac
  have pr := (t3r_bd (ok a ha) (ok b hb) (ok c hc) hac).1
  have prr : t3r X Y a b c = r := by unfold t3r; rw [hr, hA, hB, hD]
  rw [prr] at pr
  have key : ∀ q, ∃ g : Int, 0 < g ∧ rs (X q) (Y q) A B D * g = dt X Y a q c ∧ D * g = X c - X a ∧ r * g = dt X Y a b c := fun q => by
    have hd : rwD (X a) (Y a) (X c) (Y c) ≠ 0 := by unfold rwD; omega
    refine ⟨gk (rwA (X a) (Y a) (X c) (Y c)) (rwB (X a) (Y a) (X c) (Y c)) (rwD (X a) (Y a) (X c) (Y c)), ?_, ?_, ?_, ?_⟩
    · have g0 := g3_pos (rwA (X a) (Y a) (X c) (Y c)) (rwB (X a) (Y a) (X c) (Y c)) hd
      unfold gk
      rw [if_neg (by unfold rwD; omega)]
      exact g0
    all_goals (
      have e1 := mkA_mul (rwA (X a) (Y a) (X c) (Y c)) (rwB (X a) (Y a) (X c) (Y c)) (rwD (X a) (Y a) (X c) (Y c))
      have e2 := mkB_mul (rwA (X a) (Y a) (X c) (Y c)) (rwB (X a) (Y a) (X c) (Y c)) (rwD (X a) (Y a) (X c) (Y c))
      have e3 := mkD_mul (rwA (X a) (Y a) (X c) (Y c)) (rwB (X a) (Y a) (X c) (Y c)) (rwD (X a) (Y a) (X c) (Y c))
      change thA (X a) (Y a) (X c) (Y c) * _ = _ at e1
      change thB (X a) (Y a) (X c) (Y c) * _ = _ at e2
      change thD (X a) (Y a) (X c) (Y c) * _ = _ at e3
      rw [← hA] at e1
      rw [← hB] at e2
      rw [← hD] at e3
      generalize gk (rwA (X a) (Y a) (X c) (Y c)) (rwB (X a) (Y a) (X c) (Y c)) (rwD (X a) (Y a) (X c) (Y c)) = g at *
      unfold rwA at e1
      unfold rwB at e2
      unfold rwD at e3
      first
        | exact e3
        | (try rw [hr]
           unfold rs dt
           first
             | (have : (Y q * D - A * X q - B) * g = Y q * (D * g) - (A * g) * X q - B * g := by grind
                rw [this, e1, e2, e3]; grind)
             | (have : (Y b * D - A * X b - B) * g = Y b * (D * g) - (A * g) * X b - B * g := by grind
                rw [this, e1, e2, e3]; grind)))
  rw [← hA] at pA
  rw [← hB] at pB
  rw [← hD] at pD
  have sh : ∀ q, rs (X q) (Y q) (2 * A) (2 * B + r) (2 * D) = 2 * rs (X q) (Y q) A B D - r := fun q => by unfold rs; grind
  have fit : ∀ q, q < n → ab (rs (X q) (Y q) (2 * A) (2 * B + r) (2 * D)) ≤ ab r := fun q hq => by
    obtain ⟨g, g0, e1, _, e3⟩ := key q
    refine div_le g0 ?_
    rw [← ab_pos g0, ← ab_pos g0, sh, e3]
    have : (2 * rs (X q) (Y q) A B D - r) * g = 2 * (rs (X q) (Y q) A B D * g) - r * g := by grind
    rw [this, e1, e3]
    exact strip2 ha hb hc h1 h2 T hq
  have ea : ab (rs (X a) (Y a) (2 * A) (2 * B + r) (2 * D)) = ab r := by
    obtain ⟨g, g0, e1, _, _⟩ := key a
    rw [(dt_at X Y a c).1] at e1
    have : rs (X a) (Y a) A B D = 0 := by
      rcases Int.mul_eq_zero.1 e1 with h | h
      · exact h
      · omega
    rw [sh, this]
    unfold ab; omega
  obtain ⟨w1, w2⟩ := made_width (n := n) (show 0 < 2 * D by omega) fit ⟨a, ha, ea⟩
  obtain ⟨q1, q2, q3⟩ := mk_abs (2 * A) (2 * B + r) (show 2 * D ≠ 0 by omega)
  have q4 := mkD_pos (2 * A) (2 * B + r) (show 2 * D ≠ 0 by omega)
  obtain ⟨g, g0, _, e2, e3⟩ := key a
  have re := red_eq (n := ab r) (d := 2 * D) (n' := ab (dt X Y a b c)) (d' := 2 * (X c - X a)) (by omega) (by omega) (by
    rw [← e3, ab_pos g0, ← e2]
    generalize ab r = p
    grind)
  exact ⟨⟨w1.trans re.1, w2.trans re.2⟩, by unfold InL; omega, pA, pB, pD, pr⟩
end Go.Proofs.Ytbhndfnfohoidaa

namespace Go.Proofs.Ytbhndfnfohoidaa

/-- The least slope that a point lets be, as a fraction. -/
def bd (x0 x : Int) : Int := if 2 * (x - x0) < 0 then -(2 * (x - x0)) else 2 * (x - x0)
def bn (x0 wd mid x y : Int) : Int := if 2 * (x - x0) < 0 then -(2 * y + wd - mid) else 2 * y - wd - mid
structure Bs where
  N : Int
  D : Int
def bstp (x0 wd mid : Int) (s : Bs) (x y : Int) : Bs :=
  if x = x0 then s else if s.D = 0 ∨ s.N * rD (bn x0 wd mid x y) (bd x0 x) < rN (bn x0 wd mid x y) (bd x0 x) * s.D then ⟨rN (bn x0 wd mid x y) (bd x0 x), rD (bn x0 wd mid x y) (bd x0 x)⟩ else s
def bsd (X Y : Nat → Int) (x0 wd mid : Int) : Nat → Bs
  | 0 => ⟨0, 0⟩
  | k + 1 => bstp x0 wd mid (bsd X Y x0 wd mid k) (X k) (Y k)
theorem bd_pos {x0 x : Int} (h : x ≠ x0) : 0 < bd x0 x := by unfold bd; split <;> omega
theorem bn_bd {x0 wd mid x y : Int} (h0 : -100 ≤ x0 ∧ x0 ≤ 100) (hp : InP x y) (hw : 0 ≤ wd ∧ wd ≤ 2000) (hm : -2000 ≤ mid ∧ mid ≤ 2000) : (-6000 ≤ bn x0 wd mid x y ∧ bn x0 wd mid x y ≤ 6000) ∧ bd x0 x ≤ 400 := by
  obtain ⟨⟨a1, a2⟩, a3, a4⟩ := hp
  unfold bn bd
  split <;> omega

/-- What was found: nothing yet, or the greatest of the least slopes of the points that were seen. -/
theorem bsd_spec (X Y : Nat → Int) (x0 wd mid : Int) : ∀ k, (bsd X Y x0 wd mid k = ⟨0, 0⟩ ∧ ∀ i, i < k → X i = x0) ∨
    (∃ q, q < k ∧ X q ≠ x0 ∧ bsd X Y x0 wd mid k = ⟨rN (bn x0 wd mid (X q) (Y q)) (bd x0 (X q)), rD (bn x0 wd mid (X q) (Y q)) (bd x0 (X q))⟩ ∧
      ∀ i, i < k → X i ≠ x0 → bn x0 wd mid (X i) (Y i) * bd x0 (X q) ≤ bn x0 wd mid (X q) (Y q) * bd x0 (X i)) := by
  intro k
  induction k with
  | zero => exact .inl ⟨rfl, fun i h => by omega⟩
  | succ k ih =>
    rw [bsd]
    unfold bstp
    by_cases hx : X k = x0
    · rw [if_pos hx]
      rcases ih with ⟨e, h⟩ | ⟨q, hq, hne, e, h⟩
      · refine .inl ⟨e, fun i hi => ?_⟩
        by_cases ei : i = k
        · subst ei; exact hx
        · exact h i (by omega)
      · refine .inr ⟨q, by omega, hne, e, fun i hi hi2 => ?_⟩
        by_cases ei : i = k
        · subst ei; exact absurd hx hi2
        · exact h i (by omega) hi2
    · rw [if_neg hx]
      have pk := bd_pos hx
      rcases ih with ⟨e, h⟩ | ⟨q, hq, hne, e, h⟩
      · rw [e, if_pos (.inl rfl)]
        refine .inr ⟨k, by omega, hx, rfl, fun i hi hi2 => ?_⟩
        by_cases ei : i = k
        · subst ei; exact Int.le_refl _
        · exact absurd (h i (by omega)) hi2
      · have pq := bd_pos hne
        rw [e]
        simp only
        by_cases hlt : rN (bn x0 wd mid (X q) (Y q)) (bd x0 (X q)) * rD (bn x0 wd mid (X k) (Y k)) (bd x0 (X k)) < rN (bn x0 wd mid (X k) (Y k)) (bd x0 (X k)) * rD (bn x0 wd mid (X q) (Y q)) (bd x0 (X q))
        · rw [if_pos (.inr hlt)]
          have hlt' := (red_lt pq pk).1 hlt
          refine .inr ⟨k, by omega, hx, rfl, fun i hi hi2 => ?_⟩
          by_cases ei : i = k
          · subst ei; exact Int.le_refl _
          · exact frac_trans pq (h i (by omega) hi2) (Int.le_of_lt hlt') (bd_pos hi2) pk
        · have hne0 : ¬ rD (bn x0 wd mid (X q) (Y q)) (bd x0 (X q)) = 0 := by have := rD_pos (bn x0 wd mid (X q) (Y q)) pq; omega
          rw [if_neg (fun h' => h'.elim hne0 hlt)]
          refine .inr ⟨q, by omega, hne, rfl, fun i hi hi2 => ?_⟩
          by_cases ei : i = k
          · subst ei
            exact Int.not_lt.1 (fun h' => hlt ((red_lt pq pk).2 h'))
          · exact h i (by omega) hi2

/-- Of three points of which two told most: their heights by products. -/
theorem tri_lin {n : Nat} {X Y : Nat → Int} {wd : Int} (T : Top n X Y wd 2) {i j k : Nat} (hi : i < n) (hj : j < n) (hk : k < n) (h1 : X i < X j) (h2 : X j < X k) :
    -(wd * (X k - X i)) ≤ dt X Y i j k ∧ dt X Y i j k ≤ wd * (X k - X i) := by
  have h := T.tri i j k hi hj hk h1 h2
  have : wd * (2 * (X k - X i)) = 2 * (wd * (X k - X i)) := by grind
  rw [← ab_le]
  omega
theorem two_lin {n : Nat} {X Y : Nat → Int} {wd : Int} (T : Top n X Y wd 2) {i k : Nat} (hi : i < n) (hk : k < n) (h : X i = X k) : -wd ≤ Y i - Y k ∧ Y i - Y k ≤ wd := by
  have h := T.two i k hi hk h
  rw [← ab_le]
  omega

/-- The least slope of one point is at most the greatest of another one: t lies on top, u below. -/
theorem slope_rr {n : Nat} {X Y : Nat → Int} {t u : Nat} (ht : t < n) (hu : u < n) (hx : X t = X u) (T : Top n X Y (Y t - Y u) 2) {p q : Nat} (hp : p < n) (hq : q < n) (np : X t < X p) (nq : X t < X q) :
    (Y p - Y t) * (X q - X t) ≤ (Y q - Y u) * (X p - X t) := by
  rcases Int.lt_trichotomy (X p) (X q) with h | h | h
  · have k := (tri_lin T hu hp hq (by omega) h).2
    unfold dt at k
    rw [← hx] at k
    generalize X t = x at *
    grind
  · have k := (two_lin T hp hq h).2
    have e : (Y p - Y t) * (X q - X t) ≤ (Y q - Y u) * (X q - X t) := Int.mul_le_mul_of_nonneg_right (by omega) (by omega)
    rw [h]; exact e
  · have k := (tri_lin T ht hq hp nq h).1
    unfold dt at k
    generalize X t = x at *
    grind
theorem slope_ll {n : Nat} {X Y : Nat → Int} {t u : Nat} (ht : t < n) (hu : u < n) (hx : X t = X u) (T : Top n X Y (Y t - Y u) 2) {p q : Nat} (hp : p < n) (hq : q < n) (np : X p < X t) (nq : X q < X t) :
    -(Y p - Y u) * (X t - X q) ≤ (Y t - Y q) * (X t - X p) := by
  rcases Int.lt_trichotomy (X p) (X q) with h | h | h
  · have k := (tri_lin T hp hq hu h (by omega)).2
    unfold dt at k
    rw [← hx] at k
    generalize X t = x at *
    grind
  · have k := (two_lin T hp hq h).1
    have e : -(Y p - Y u) * (X t - X q) ≤ (Y t - Y q) * (X t - X q) := Int.mul_le_mul_of_nonneg_right (by omega) (by omega)
    rw [h]; exact e
  · have k := (tri_lin T hq hp ht h np).1
    unfold dt at k
    generalize X t = x at *
    grind
theorem slope_rl {n : Nat} {X Y : Nat → Int} {t u : Nat} (_ht : t < n) (hu : u < n) (hx : X t = X u) (T : Top n X Y (Y t - Y u) 2) {p q : Nat} (hp : p < n) (hq : q < n) (np : X t < X p) (nq : X q < X t) :
    (Y p - Y t) * (X t - X q) ≤ (Y t - Y q) * (X p - X t) := by
  have k := (tri_lin T hq hu hp (by omega) (by omega)).1
  unfold dt at k
  rw [← hx] at k
  generalize X t = x at *
  grind
theorem slope_lr {n : Nat} {X Y : Nat → Int} {t u : Nat} (ht : t < n) (_hu : u < n) (_hx : X t = X u) (T : Top n X Y (Y t - Y u) 2) {p q : Nat} (hp : p < n) (hq : q < n) (np : X p < X t) (nq : X t < X q) :
    -(Y p - Y u) * (X q - X t) ≤ (Y q - Y u) * (X t - X p) := by
  have k := (tri_lin T hp ht hq np nq).2
  unfold dt at k
  generalize X t = x at *
  grind

/-- From fractions to lowest terms. -/
theorem frac_le {N E nn d v k : Int} (e : N * d = nn * E) (hd : 0 < d) (hE : 0 < E) (h : nn * v ≤ d * k) : N * v ≤ E * k := by
  refine div_le hd ?_
  have k1 : nn * v * E ≤ d * k * E := Int.mul_le_mul_of_nonneg_right h (by omega)
  have k2 : N * v * d = nn * v * E := by grind
  have k3 : E * k * d = d * k * E := by grind
  omega
theorem frac_ge {N E nn d v k : Int} (e : N * d = nn * E) (hd : 0 < d) (hE : 0 < E) (h : k * d ≤ nn * v) : k * E ≤ N * v := by
  refine div_le hd ?_
  have k1 : k * d * E ≤ nn * v * E := Int.mul_le_mul_of_nonneg_right h (by omega)
  have k2 : N * v * d = nn * v * E := by grind
  have k3 : k * E * d = k * d * E := by grind
  omega

/-- No point is farther from the line than half of what the two tell. -/
theorem beside_fit {n : Nat} {X Y : Nat → Int} {t u : Nat} (ht : t < n) (hu : u < n) (hx : X t = X u) (T : Top n X Y (Y t - Y u) 2) {N E : Int} (hE : 0 < E)
    {p : Nat} (hp : p < n) (np : X p ≠ X t) (he : N * bd (X t) (X p) = bn (X t) (Y t - Y u) (Y t + Y u) (X p) (Y p) * E)
    (hm : ∀ i, i < n → X i ≠ X t → bn (X t) (Y t - Y u) (Y t + Y u) (X i) (Y i) * bd (X t) (X p) ≤ bn (X t) (Y t - Y u) (Y t + Y u) (X p) (Y p) * bd (X t) (X i)) {q : Nat} (hq : q < n) :
    ab (rs (X q) (Y q) (2 * N) ((Y t + Y u) * E - 2 * N * X t) (2 * E)) ≤ (Y t - Y u) * E := by
  have rr : rs (X q) (Y q) (2 * N) ((Y t + Y u) * E - 2 * N * X t) (2 * E) = (2 * Y q - Y t - Y u) * E - 2 * (N * (X q - X t)) := by unfold rs; grind
  rw [rr, ab_le]
  by_cases nq : X q = X t
  · have k1 := two_lin T hq ht nq
    have k2 := two_lin T hq hu (by omega)
    rw [nq, Int.sub_self, Int.mul_zero]
    have l1 : (2 * Y q - Y t - Y u) * E ≤ (Y t - Y u) * E := Int.mul_le_mul_of_nonneg_right (by omega) (by omega)
    have l2 : -(Y t - Y u) * E ≤ (2 * Y q - Y t - Y u) * E := Int.mul_le_mul_of_nonneg_right (by omega) (by omega)
    rw [Int.neg_mul] at l2
    omega
  · have h := hm q hq nq
    have pp := bd_pos np
    have lo := frac_ge he pp hE h
    have up : bn (X t) (Y t - Y u) (Y t + Y u) (X p) (Y p) * (2 * (if X t < X q then X q - X t else X t - X q)) ≤ bd (X t) (X p) * (2 * (if X t < X q then Y q - Y u else Y t - Y q)) := by
      unfold bn bd
      by_cases a : X t < X q
      · rw [if_pos a, if_pos a]
        by_cases b : X t < X p
        · rw [if_neg (by omega), if_neg (by omega)]
          have := slope_rr ht hu hx T hp hq b a
          grind
        · rw [if_pos (by omega), if_pos (by omega)]
          have := slope_lr ht hu hx T hp hq (by omega) a
          grind
      · rw [if_neg a, if_neg a]
        by_cases b : X t < X p
        · rw [if_neg (by omega), if_neg (by omega)]
          have := slope_rl ht hu hx T hp hq b (by omega)
          grind
        · rw [if_pos (by omega), if_pos (by omega)]
          have := slope_ll ht hu hx T hp hq (by omega) (by omega)
          grind
    have up := frac_le he pp hE up
    unfold bn bd at lo
    by_cases a : X t < X q
    · rw [if_neg (by omega), if_neg (by omega)] at lo
      rw [if_pos a, if_pos a] at up
      constructor <;> grind
    · rw [if_pos (by omega), if_pos (by omega)] at lo
      rw [if_neg a, if_neg a] at up
      constructor <;> grind
end Go.Proofs.Ytbhndfnfohoidaa

namespace Go.Proofs.Ytbhndfnfohoidaa

structure Ln where
  A : Int
  B : Int
  D : Int
def mkL (a b d : Int) : Ln := ⟨mkA a b d, mkB a b d, mkD a b d⟩
def thL (X Y : Nat → Int) (i k : Nat) : Ln := ⟨thA (X i) (Y i) (X k) (Y k), thB (X i) (Y i) (X k) (Y k), thD (X i) (Y i) (X k) (Y k)⟩
/-- The line through the middle of two points of one X. -/
def beL (n : Nat) (X Y : Nat → Int) (x0 y0 y1 : Int) : Ln :=
  mkL (2 * (bsd X Y x0 (ab (y0 - y1)) (y0 + y1) n).N) ((y0 + y1) * (bsd X Y x0 (ab (y0 - y1)) (y0 + y1) n).D - 2 * (bsd X Y x0 (ab (y0 - y1)) (y0 + y1) n).N * x0) (2 * (bsd X Y x0 (ab (y0 - y1)) (y0 + y1) n).D)
def triL (X Y : Nat → Int) (a b c : Nat) : Ln :=
  mkL (2 * (thL X Y a c).A) (2 * (thL X Y a c).B + rs (X b) (Y b) (thL X Y a c).A (thL X Y a c).B (thL X Y a c).D) (2 * (thL X Y a c).D)
def axL (n : Nat) (X Y : Nat → Int) : List Nat → Ln
  | [a, b] => beL n X Y (X a) (Y a) (Y b)
  | [a, b, c] => triL X Y a b c
  | _ => thL X Y 0 1

theorem bsd_at {n : Nat} {X Y : Nat → Int} (V : VP n X Y) {x0 wd mid : Int} (h0 : -100 ≤ x0 ∧ x0 ≤ 100) (hw : 0 ≤ wd ∧ wd ≤ 2000) (hm : -2000 ≤ mid ∧ mid ≤ 2000) :
    ∃ p, p < n ∧ X p ≠ x0 ∧ (bsd X Y x0 wd mid n).N * bd x0 (X p) = bn x0 wd mid (X p) (Y p) * (bsd X Y x0 wd mid n).D ∧ (0 < (bsd X Y x0 wd mid n).D ∧ (bsd X Y x0 wd mid n).D ≤ 400) ∧ (-6000 ≤ (bsd X Y x0 wd mid n).N ∧ (bsd X Y x0 wd mid n).N ≤ 6000) ∧
      ∀ i, i < n → X i ≠ x0 → bn x0 wd mid (X i) (Y i) * bd x0 (X p) ≤ bn x0 wd mid (X p) (Y p) * bd x0 (X i) := by
  rcases bsd_spec X Y x0 wd mid n with ⟨_, h⟩ | ⟨p, hp, hne, e, h⟩
  · obtain ⟨i, hi, hx⟩ := V.far
    have := h i hi
    have := h 0 (by have := V.two; omega)
    omega
  · have b := bn_bd h0 (V.ok p hp) hw hm
    have pp := bd_pos hne
    rw [e]
    refine ⟨p, hp, hne, red_mul _ _, ⟨rD_pos _ pp, ?_⟩, ?_, h⟩
    · have := rD_le (bn x0 wd mid (X p) (Y p)) pp; simp only; omega
    · have := rN_abs (n := bn x0 wd mid (X p) (Y p)) pp; simp only; omega

theorem beside_ok {n : Nat} {X Y : Nat → Int} (V : VP n X Y) {a b : Nat} (ha : a < n) (hb : b < n) (hx : X a = X b) (T : Top n X Y (ab (Y a - Y b)) 2) :
    (rN (maxA X Y (beL n X Y (X a) (Y a) (Y b)).A (beL n X Y (X a) (Y a) (Y b)).B (beL n X Y (X a) (Y a) (Y b)).D n) (beL n X Y (X a) (Y a) (Y b)).D = rN (ab (Y a - Y b)) 2 ∧
     rD (maxA X Y (beL n X Y (X a) (Y a) (Y b)).A (beL n X Y (X a) (Y a) (Y b)).B (beL n X Y (X a) (Y a) (Y b)).D n) (beL n X Y (X a) (Y a) (Y b)).D = rD (ab (Y a - Y b)) 2) ∧
    InL (beL n X Y (X a) (Y a) (Y b)).A (beL n X Y (X a) (Y a) (Y b)).B (beL n X Y (X a) (Y a) (Y b)).D := by
  obtain ⟨⟨a1, a2⟩, a3, a4⟩ := V.ok a ha
  obtain ⟨_, b3, b4⟩ := V.ok b hb
  have hw := ab_cases (Y a - Y b)
  have h0 := ab_nonneg (Y a - Y b)
  obtain ⟨p, hp, np, he, hE, hN, hm⟩ := bsd_at V (x0 := X a) (wd := ab (Y a - Y b)) (mid := Y a + Y b) ⟨a1, a2⟩ ⟨h0, by omega⟩ ⟨by omega, by omega⟩
  unfold beL mkL
  simp only
  generalize (bsd X Y (X a) (ab (Y a - Y b)) (Y a + Y b) n).N = N at *
  generalize (bsd X Y (X a) (ab (Y a - Y b)) (Y a + Y b) n).D = E at *
  have fit : ∀ q, q < n → ab (rs (X q) (Y q) (2 * N) ((Y a + Y b) * E - 2 * N * X a) (2 * E)) ≤ ab (Y a - Y b) * E := fun q hq => by
    rcases hw with ⟨k, e⟩ | ⟨k, e⟩
    · rw [e] at T he hm ⊢
      exact beside_fit ha hb hx T hE.1 hp np he hm hq
    · have e' : ab (Y a - Y b) = Y b - Y a := by omega
      rw [e'] at T he hm ⊢
      rw [show Y a + Y b = Y b + Y a from Int.add_comm _ _] at he hm ⊢
      rw [hx] at np he hm ⊢
      exact beside_fit hb ha hx.symm T hE.1 hp np he hm hq
  have ea : ab (rs (X a) (Y a) (2 * N) ((Y a + Y b) * E - 2 * N * X a) (2 * E)) = ab (Y a - Y b) * E := by
    have : rs (X a) (Y a) (2 * N) ((Y a + Y b) * E - 2 * N * X a) (2 * E) = (Y a - Y b) * E := by unfold rs; grind
    rw [this, ab_pos hE.1]
  obtain ⟨w1, w2⟩ := made_width (n := n) (show 0 < 2 * E by omega) fit ⟨a, ha, ea⟩
  have re := red_eq (n := ab (Y a - Y b) * E) (d := 2 * E) (n' := ab (Y a - Y b)) (d' := 2) (by omega) (by omega) (by grind)
  have m1 := mul_bd (a := Y a + Y b) (b := E) (A := 2000) (B := 400) (by omega) (by omega) (by omega) (by omega)
  have m2 := mul_bd (a := 2 * N) (b := X a) (A := 12000) (B := 100) (by omega) (by omega) (by omega) (by omega)
  obtain ⟨q1, q2, q3⟩ := mk_abs (2 * N) ((Y a + Y b) * E - 2 * N * X a) (show 2 * E ≠ 0 by omega)
  have q4 := mkD_pos (2 * N) ((Y a + Y b) * E - 2 * N * X a) (show 2 * E ≠ 0 by omega)
  exact ⟨⟨w1.trans re.1, w2.trans re.2⟩, by unfold InL; omega⟩

/-- No witness: two points alone. -/
theorem wits_nil {n : Nat} {X Y : Nat → Int} (V : VP n X Y) (h : wits n X = []) : n = 2 ∧ X 0 ≠ X 1 := by
  have no2 : ∀ i k, i < k → k < n → X i ≠ X k := fun i k hik hk hx => by
    have := mem_wits2 hik hk hx
    rw [h] at this; cases this
  have no3 : ∀ i j k, i < n → j < n → k < n → X i < X j → ¬ X j < X k := fun i j k hi hj hk h1 h2 => by
    have := mem_wits3 hi hj hk h1 h2
    rw [h] at this; cases this
  have n2 := V.two
  refine ⟨?_, no2 0 1 (by omega) (by omega)⟩
  refine Nat.le_antisymm (Nat.not_lt.1 fun h3 => ?_) n2
  have a1 := no2 0 1 (by omega) (by omega)
  have a2 := no2 0 2 (by omega) (by omega)
  have a3 := no2 1 2 (by omega) (by omega)
  have b1 := no3 0 1 2 (by omega) (by omega) (by omega)
  have b2 := no3 0 2 1 (by omega) (by omega) (by omega)
  have b3 := no3 1 0 2 (by omega) (by omega) (by omega)
  have b4 := no3 1 2 0 (by omega) (by omega) (by omega)
  have b5 := no3 2 0 1 (by omega) (by omega) (by omega)
  have b6 := no3 2 1 0 (by omega) (by omega) (by omega)
  omega

theorem axis_ok {n : Nat} {X Y : Nat → Int} (V : VP n X Y) :
    (rN (maxA X Y (axL n X Y (witS X Y (wits n X)).l).A (axL n X Y (witS X Y (wits n X)).l).B (axL n X Y (witS X Y (wits n X)).l).D n) (axL n X Y (witS X Y (wits n X)).l).D = (witS X Y (wits n X)).N ∧
     rD (maxA X Y (axL n X Y (witS X Y (wits n X)).l).A (axL n X Y (witS X Y (wits n X)).l).B (axL n X Y (witS X Y (wits n X)).l).D n) (axL n X Y (witS X Y (wits n X)).l).D = (witS X Y (wits n X)).D) ∧
    InL (axL n X Y (witS X Y (wits n X)).l).A (axL n X Y (witS X Y (wits n X)).l).B (axL n X Y (witS X Y (wits n X)).l).D := by
  rcases wit_cases V with ⟨e, hn, e1, e2⟩ | ⟨a, b, e, ⟨ha, hb, _, hx⟩, e1, e2, T⟩ | ⟨a, b, c, e, ⟨ha, hb, hc, h1, h2⟩, e1, e2, T⟩
  · rw [e, e1, e2]
    obtain ⟨rfl, hx⟩ := wits_nil V hn
    have ok0 := V.ok 0 (by omega)
    have ok1 := V.ok 1 (by omega)
    have hl : InL (axL 2 X Y []).A (axL 2 X Y []).B (axL 2 X Y []).D := th_in ok0 ok1 hx
    have zero : ∀ i, i < 2 → rs (X i) (Y i) (axL 2 X Y []).A (axL 2 X Y []).B (axL 2 X Y []).D = 0 := fun i hi => by
      show rs (X i) (Y i) (thA (X 0) (Y 0) (X 1) (Y 1)) (thB (X 0) (Y 0) (X 1) (Y 1)) (thD (X 0) (Y 0) (X 1) (Y 1)) = 0
      have hd : rwD (X 0) (Y 0) (X 1) (Y 1) ≠ 0 := by unfold rwD; omega
      have g0 := gk_ne (rwA (X 0) (Y 0) (X 1) (Y 1)) (rwB (X 0) (Y 0) (X 1) (Y 1)) hd
      have q1 := mkA_mul (rwA (X 0) (Y 0) (X 1) (Y 1)) (rwB (X 0) (Y 0) (X 1) (Y 1)) (rwD (X 0) (Y 0) (X 1) (Y 1))
      have q2 := mkB_mul (rwA (X 0) (Y 0) (X 1) (Y 1)) (rwB (X 0) (Y 0) (X 1) (Y 1)) (rwD (X 0) (Y 0) (X 1) (Y 1))
      have q3 := mkD_mul (rwA (X 0) (Y 0) (X 1) (Y 1)) (rwB (X 0) (Y 0) (X 1) (Y 1)) (rwD (X 0) (Y 0) (X 1) (Y 1))
      change thA (X 0) (Y 0) (X 1) (Y 1) * _ = _ at q1
      change thB (X 0) (Y 0) (X 1) (Y 1) * _ = _ at q2
      change thD (X 0) (Y 0) (X 1) (Y 1) * _ = _ at q3
      generalize gk (rwA (X 0) (Y 0) (X 1) (Y 1)) (rwB (X 0) (Y 0) (X 1) (Y 1)) (rwD (X 0) (Y 0) (X 1) (Y 1)) = g at *
      generalize thA (X 0) (Y 0) (X 1) (Y 1) = A at *
      generalize thB (X 0) (Y 0) (X 1) (Y 1) = B at *
      generalize thD (X 0) (Y 0) (X 1) (Y 1) = D at *
      unfold rwA at q1
      unfold rwB at q2
      unfold rwD at q3
      have z : rs (X i) (Y i) A B D * g = 0 := by
        unfold rs
        have : (Y i * D - A * X i - B) * g = Y i * (D * g) - (A * g) * X i - B * g := by grind
        rw [this, q1, q2, q3]
        have : i = 0 ∨ i = 1 := by omega
        rcases this with rfl | rfl <;> grind
      exact (Int.mul_eq_zero.1 z).resolve_right g0
    have mz : maxA X Y (axL 2 X Y []).A (axL 2 X Y []).B (axL 2 X Y []).D 2 = 0 :=
      maxA_eq (n := 2) (Int.le_refl 0) (fun i hi => by rw [zero i hi]; decide) ⟨0, by omega, by rw [zero 0 (by omega)]; rfl⟩ (Nat.le_refl 2)
    rw [mz]
    have r := red_whole (k := 0) (d := (axL 2 X Y []).D) (by have := hl.2.2.1; omega)
    rw [Int.zero_mul] at r
    exact ⟨r, hl⟩
  · rw [e, e1, e2]
    exact beside_ok V ha hb hx T
  · rw [e, e1, e2]
    obtain ⟨r, hl, _⟩ := axis3 V.ok ha hb hc h1 h2 T (A := (thL X Y a c).A) (B := (thL X Y a c).B) (D := (thL X Y a c).D) rfl rfl rfl rfl
    exact ⟨r, hl⟩
end Go.Proofs.Ytbhndfnfohoidaa
