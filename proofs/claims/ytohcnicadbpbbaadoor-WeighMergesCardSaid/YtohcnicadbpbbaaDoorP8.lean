/- The reference's row: each outcome stands behind as many as come before it. The plain law. Also: how far apart noise and signal are. -/
import Derived.Test.YtohcnicadbpbbaaDoorP7
namespace Go.Proofs.YtohcnicadbpbbaaDoor

/-- Whether the reference puts b before a. -/
def refB (f g : Nat → Int) (a b : Nat) : Bool :=
  if nth f g a ≠ nth f g b then decide (nth f g a = 1) else if 0 < crs f g b a then true else !decide (0 < crs f g a b) && decide (b < a)
theorem refB_bef {f g : Nat → Int} (hf : ∀ i, 0 ≤ f i) (hg : ∀ i, 0 ≤ g i) (a b : Nat) : refB f g a b = befO f g b a := by
  have h : refB f g a b = true ↔ befO f g b a = true := by
    rw [befO_iff]
    have e := crs_swap f g a b
    unfold refB
    rcases nth_cases (hf a) (hg a) with ⟨na, _⟩ | ⟨na, _⟩ <;> rcases nth_cases (hf b) (hg b) with ⟨nb, _⟩ | ⟨nb, _⟩
    all_goals
      rw [na, nb]
      simp
      try omega
    all_goals
      by_cases h1 : 0 < crs f g b a <;> by_cases h2 : 0 < crs f g a b <;> simp [h1, h2] <;> omega
  cases h1 : refB f g a b <;> cases h2 : befO f g b a <;> simp_all
/-- The place of an outcome. -/
def plc (f g : Nat → Int) (n a : Nat) : Nat := cntP (fun b => refB f g a b) n
theorem cntP_le (q : Nat → Bool) : ∀ n, cntP q n ≤ n
  | 0 => Nat.le_refl 0
  | n + 1 => by
    have := cntP_le q n
    show cntP q n + _ ≤ n + 1
    split <;> omega
theorem plc_row {f g : Nat → Int} (hf : ∀ i, 0 ≤ f i) (hg : ∀ i, 0 ≤ g i) {n p : Nat} (hp : p < n) : plc f g n (rowN f g n p) = p := by
  unfold plc
  rw [cntP_congr (fun b _ => refB_bef hf hg (rowN f g n p) b)]
  exact place (befO_tr hf hg) (befO_tot f g) (befO_irr f g) (fun a b h => by
    unfold befO
    have : decide (a < b) = false := by simp; omega
    rw [this]; simp) hp
theorem cntP_eq (a : Nat) : ∀ n, cntP (fun p => decide (p = a)) n = if a < n then 1 else 0
  | 0 => rfl
  | n + 1 => by
    show cntP (fun p => decide (p = a)) n + _ = _
    rw [cntP_eq a n]
    by_cases h : n = a
    · subst h; simp
    · have e : decide (n = a) = false := by simp [h]
      simp only [e]
      by_cases h2 : a < n
      · rw [if_pos h2, if_neg (by decide), if_pos (show a < n + 1 by omega)]
      · rw [if_neg h2, if_neg (by decide), if_neg (show ¬ a < n + 1 by omega)]
theorem cntP_ex {q : Nat → Bool} : ∀ {n : Nat}, 0 < cntP q n → ∃ p, p < n ∧ q p = true
  | 0, h => by cases h
  | n + 1, h => by
    cases hq : q n with
    | true => exact ⟨n, by omega, hq⟩
    | false =>
      have : 0 < cntP q n := by
        have h' : 0 < cntP q n + (if q n = true then 1 else 0) := h
        rw [hq] at h'; simpa using h'
      obtain ⟨p, h1, h2⟩ := cntP_ex this
      exact ⟨p, by omega, h2⟩
theorem row_sur (f g : Nat → Int) {n a : Nat} (ha : a < n) : ∃ p, p < n ∧ rowN f g n p = a := by
  have e := insO_cnt (fun x => decide (x = a)) (fun i j => decide (cmpO f g i j < 0)) (n := n) (n - 1) 1 id (by omega)
  have e2 : cntP (fun p => decide (id p = a)) n = 1 := by
    have := cntP_eq a n
    rw [if_pos ha] at this
    exact this
  obtain ⟨p, h1, h2⟩ := cntP_ex (q := fun p => decide (insO (fun i j => decide (cmpO f g i j < 0)) (n - 1) 1 id p = a)) (n := n) (by rw [e, e2]; omega)
  exact ⟨p, h1, of_decide_eq_true h2⟩
theorem plc_lt {f g : Nat → Int} (hf : ∀ i, 0 ≤ f i) (hg : ∀ i, 0 ≤ g i) {n a : Nat} (ha : a < n) : plc f g n a < n := by
  obtain ⟨p, hp, rfl⟩ := row_sur f g ha
  rw [plc_row hf hg hp]; exact hp
/-- The reference's row when the first k are put in. -/
def U (f g : Nat → Int) (n : Nat) : Nat → Nat → Int
  | 0, _ => 0
  | k + 1, q => if q = plc f g n k then k else U f g n k q
theorem U_at {f g : Nat → Int} (hf : ∀ i, 0 ≤ f i) (hg : ∀ i, 0 ≤ g i) {n p : Nat} (hp : p < n) : ∀ {k : Nat}, k ≤ n → U f g n k p = if rowN f g n p < k then (rowN f g n p : Int) else 0
  | 0, _ => rfl
  | k + 1, hk => by
    show (if p = plc f g n k then (k : Int) else U f g n k p) = _
    rw [U_at hf hg hp (k := k) (by omega)]
    by_cases h : p = plc f g n k
    · obtain ⟨p', h1, h2⟩ := row_sur f g (a := k) (n := n) (by omega)
      have : p = p' := by rw [h, ← h2, plc_row hf hg h1]
      subst this
      rw [if_pos h, h2, if_pos (by omega)]
    · rw [if_neg h]
      have : rowN f g n p ≠ k := fun e => h (by rw [← e, plc_row hf hg hp])
      by_cases h2 : rowN f g n p < k
      · rw [if_pos h2, if_pos (by omega)]
      · rw [if_neg h2, if_neg (by omega)]
theorem U_row {f g : Nat → Int} (hf : ∀ i, 0 ≤ f i) (hg : ∀ i, 0 ≤ g i) {n p : Nat} (hp : p < n) : U f g n n p = (rowN f g n p : Int) := by
  rw [U_at hf hg hp (Nat.le_refl n), if_pos ((ord_row hf hg (by omega)).bd p hp)]

/-- How far noise and signal are apart: the sum of what is above 0. -/
def apP (f g : Nat → Int) (n : Nat) : Int := sm (fun a => max 0 (g a * sm f n - f a * sm g n)) n
def apA (f g : Nat → Int) (n : Nat) : Int := sm (fun a => max (g a * sm f n - f a * sm g n) (-(g a * sm f n - f a * sm g n))) n
theorem ap_two (f g : Nat → Int) (n : Nat) : apA f g n = 2 * apP f g n := by
  have z : sm (fun a => g a * sm f n - f a * sm g n) n = 0 := by
    have e : sm (fun a => g a * sm f n - f a * sm g n) n = sm (fun a => g a * sm f n + f a * (-sm g n)) n := sm_congr fun i _ => by rw [Int.mul_neg]; omega
    rw [e, sm_add, sm_mulr, sm_mulr, Int.mul_neg, Int.mul_comm (sm g n)]
    omega
  have k : ∀ m, apA f g n = apA f g n → sm (fun a => max (g a * sm f n - f a * sm g n) (-(g a * sm f n - f a * sm g n))) m = 2 * sm (fun a => max 0 (g a * sm f n - f a * sm g n)) m - sm (fun a => g a * sm f n - f a * sm g n) m := by
    intro m _
    induction m with
    | zero => rfl
    | succ m ih =>
      simp only [sm, ih]
      omega
  have := k n rfl
  unfold apA apP
  omega

end Go.Proofs.YtohcnicadbpbbaaDoor
