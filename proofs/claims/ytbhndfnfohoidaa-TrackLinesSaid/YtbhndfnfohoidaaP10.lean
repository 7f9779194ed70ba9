/- What the best witness tells bounds all points: the plain law. -/
import Derived.Test.YtbhndfnfohoidaaP9
import Derived.Test.YtbhndfnfohoidaaW4
namespace Go.Proofs.Ytbhndfnfohoidaa

theorem red_le {n d n' d' : Int} (hd : 0 < d) (hd' : 0 < d') : rN n d * rD n' d' ≤ rN n' d' * rD n d ↔ n * d' ≤ n' * d := by
  rw [← Int.not_lt, ← Int.not_lt, red_lt hd' hd]
theorem isWit2 {n : Nat} {X : Nat → Int} {a b : Nat} (h : IsWit n X [a, b]) : a < n ∧ b < n ∧ a ≠ b ∧ X a = X b := by
  have h1 := h.1
  have e0 : nf [a, b] 0 = (a : Int) := rfl
  have e1 : nf [a, b] 1 = (b : Int) := rfl
  unfold witB goodW goodAt anyI at_ at h1
  simp [List.range_succ, e0, e1] at h1
  omega
theorem isWit3 {n : Nat} {X : Nat → Int} {a b c : Nat} (h : IsWit n X [a, b, c]) : a < n ∧ b < n ∧ c < n ∧ X a < X b ∧ X b < X c := by
  have h1 := h.1
  have e0 : nf [a, b, c] 0 = (a : Int) := rfl
  have e1 : nf [a, b, c] 1 = (b : Int) := rfl
  have e2 : nf [a, b, c] 2 = (c : Int) := rfl
  unfold witB goodW goodAt anyI at_ at h1
  simp [List.range_succ, e0, e1, e2] at h1
  omega
theorem told2 (X Y : Nat → Int) (a b : Nat) : LN X Y [a, b] = rN (ab (Y a - Y b)) 2 ∧ LD X Y [a, b] = rD (ab (Y a - Y b)) 2 := ⟨rfl, rfl⟩
theorem told3 {X Y : Nat → Int} {a b c : Nat} (h : X a < X c) : LN X Y [a, b, c] = rN (ab (dt X Y a b c)) (2 * (X c - X a)) ∧ LD X Y [a, b, c] = rD (ab (dt X Y a b c)) (2 * (X c - X a)) := by
  obtain ⟨g, g0, e1, e2⟩ := t3_dt (Y := Y) (b := b) h
  have hd : 0 < t3d X Y a c := by
    rcases Int.lt_or_le 0 (t3d X Y a c) with k | k
    · exact k
    · have := Int.mul_nonneg (show 0 ≤ -t3d X Y a c by omega) (show 0 ≤ g by omega)
      rw [Int.neg_mul, e2] at this
      omega
  have hab : ab (dt X Y a b c) = ab (t3r X Y a b c) * g := by
    rw [← e1, ab_mul]
    congr 1
    unfold ab; omega
  refine red_eq (show 0 < 2 * t3d X Y a c by omega) (show 0 < 2 * (X c - X a) by omega) ?_
  show ab (t3r X Y a b c) * (2 * (X c - X a)) = ab (dt X Y a b c) * (2 * t3d X Y a c)
  rw [hab, ← e2]
  generalize ab (t3r X Y a b c) = p
  generalize t3d X Y a c = q
  grind

/-- Nothing that two or three points tell is more than v / e. -/
structure Top (n : Nat) (X Y : Nat → Int) (v e : Int) : Prop where
  two : ∀ i k, i < n → k < n → X i = X k → ab (Y i - Y k) * e ≤ v * 2
  tri : ∀ i j k, i < n → j < n → k < n → X i < X j → X j < X k → ab (dt X Y i j k) * e ≤ v * (2 * (X k - X i))
theorem top_of {n : Nat} {X Y : Nat → Int} {v e : Int} (hv : 0 ≤ v) (he : 0 < e) (h : ∀ L ∈ wits n X, LN X Y L * rD v e ≤ rN v e * LD X Y L) : Top n X Y v e := by
  have key : ∀ i k, i < k → k < n → X i = X k → ab (Y i - Y k) * e ≤ v * 2 := fun i k hik hk hx => by
    have := h _ (mem_wits2 hik hk hx)
    rw [(told2 X Y i k).1, (told2 X Y i k).2] at this
    exact (red_le (by omega) he).1 this
  refine ⟨fun i k hi hk hx => ?_, fun i j k hi hj hk h1 h2 => ?_⟩
  · rcases Nat.lt_trichotomy i k with h1 | h1 | h1
    · exact key i k h1 hk hx
    · subst h1
      have : ab (Y i - Y i) = 0 := by unfold ab; omega
      rw [this, Int.zero_mul]
      omega
    · have := key k i h1 hi hx.symm
      have e1 : ab (Y k - Y i) = ab (Y i - Y k) := by unfold ab; omega
      rw [e1] at this
      exact this
  · have := h _ (mem_wits3 hi hj hk h1 h2)
    rw [(told3 (Y := Y) (b := j) (show X i < X k by omega)).1, (told3 (Y := Y) (b := j) (show X i < X k by omega)).2] at this
    exact (red_le (by omega) he).1 this

/-- What the search finds: nothing, two points, or three. -/
theorem wit_cases {n : Nat} {X Y : Nat → Int} (V : VP n X Y) :
    ((witS X Y (wits n X)).l = [] ∧ wits n X = [] ∧ (witS X Y (wits n X)).N = 0 ∧ (witS X Y (wits n X)).D = 1) ∨
    (∃ a b, (witS X Y (wits n X)).l = [a, b] ∧ (a < n ∧ b < n ∧ a ≠ b ∧ X a = X b) ∧ (witS X Y (wits n X)).N = rN (ab (Y a - Y b)) 2 ∧ (witS X Y (wits n X)).D = rD (ab (Y a - Y b)) 2 ∧ Top n X Y (ab (Y a - Y b)) 2) ∨
    (∃ a b c, (witS X Y (wits n X)).l = [a, b, c] ∧ (a < n ∧ b < n ∧ c < n ∧ X a < X b ∧ X b < X c) ∧ (witS X Y (wits n X)).N = rN (ab (dt X Y a b c)) (2 * (X c - X a)) ∧ (witS X Y (wits n X)).D = rD (ab (dt X Y a b c)) (2 * (X c - X a)) ∧ Top n X Y (ab (dt X Y a b c)) (2 * (X c - X a))) := by
  have hm := (witS_max (Y := Y) V.ok (wits n X) wst0 wits_wit ⟨⟨by decide, by decide⟩, by decide, by decide⟩ (fun _ => rfl)).2
  rcases witS_own X Y (wits n X) wst0 with h | ⟨h1, h2, h3⟩
  · refine .inl ?_
    have hl : (witS X Y (wits n X)).l = [] := by unfold witS; rw [h]; rfl
    refine ⟨hl, ?_, by unfold witS; rw [h]; rfl, by unfold witS; rw [h]; rfl⟩
    rcases List.eq_nil_or_concat (wits n X) with e | ⟨ls, L, e⟩
    · exact e
    · have hw : IsWit n X L := wits_wit L (by rw [e]; simp)
      rw [e, List.concat_eq_append, witS_snoc] at hl
      unfold wstep at hl
      split at hl
      · simp only at hl; have := hw.2; rw [hl] at this; simp at this
      · rename_i k; exact absurd (.inl hl) k
  · have hw := wits_wit _ h1
    change (witS X Y (wits n X)).l ∈ wits n X at h1
    change (witS X Y (wits n X)).N = LN X Y (witS X Y (wits n X)).l at h2
    change (witS X Y (wits n X)).D = LD X Y (witS X Y (wits n X)).l at h3
    change ∀ L ∈ wits n X, LN X Y L * (witS X Y (wits n X)).D ≤ (witS X Y (wits n X)).N * LD X Y L at hm
    change IsWit n X (witS X Y (wits n X)).l at hw
    rw [h2, h3] at hm ⊢
    generalize (witS X Y (wits n X)).l = l at *
    match l, hw with
    | [a, b], hw =>
      have k := isWit2 hw
      rw [(told2 X Y a b).1, (told2 X Y a b).2] at hm ⊢
      exact .inr (.inl ⟨a, b, rfl, k, rfl, rfl, top_of (ab_nonneg _) (by omega) hm⟩)
    | [a, b, c], hw =>
      have k := isWit3 hw
      obtain ⟨e1, e2⟩ := told3 (Y := Y) (b := b) (show X a < X c by omega)
      rw [e1, e2] at hm ⊢
      exact .inr (.inr ⟨a, b, c, rfl, k, rfl, rfl, top_of (ab_nonneg _) (by omega) hm⟩)
    | [], hw => exact absurd hw.2 (by simp)
    | [_], hw => exact absurd hw.2 (by simp)
    | _ :: _ :: _ :: _ :: _, hw => exact absurd hw.2 (by simp)
end Go.Proofs.Ytbhndfnfohoidaa
