/- Which hits are valid, and which one is before another one: the plain laws. -/
import Derived.Test.YthgbnjndljjbgaaDoorP2
namespace Go.Firn

/-- A hit's place and time are in reach. -/
def okH (P T : Nat → Int) (i : Nat) : Bool := decide (-1000 ≤ P i) && decide (P i ≤ 1000) && decide (-1000 ≤ T i) && decide (T i ≤ 1000)
/-- The hit i is one of the first k. -/
def wasH (P T : Nat → Int) (k i : Nat) : Bool := (List.range k).any fun j => P i == P j && T i == T j
/-- The first k hits are in reach, and no two of them are the same. -/
def fineH (P T : Nat → Int) (k : Nat) : Bool := (List.range k).all fun i => okH P T i && !wasH P T i i
def vH (n : Nat) (P T : Nat → Int) : Bool := fineH P T n && decide (1 ≤ n) && decide (n ≤ 14)

theorem fineH_zero (P T : Nat → Int) : fineH P T 0 = true := rfl
theorem fineH_succ (P T : Nat → Int) (k : Nat) : fineH P T (k + 1) = (fineH P T k && (okH P T k && !wasH P T k k)) := by
  unfold fineH
  rw [List.range_succ, List.all_append]
  simp
theorem fineH_stop {P T : Nat → Int} {k n : Nat} (hk : k < n) (h : (okH P T k && !wasH P T k k) = false) : fineH P T n = false := by
  unfold fineH
  rw [List.all_eq_false]
  exact ⟨k, by simpa using hk, by rw [h]; simp⟩
theorem wasH_zero (P T : Nat → Int) (i : Nat) : wasH P T 0 i = false := rfl
theorem wasH_succ (P T : Nat → Int) (k i : Nat) : wasH P T (k + 1) i = (wasH P T k i || (P i == P k && T i == T k)) := by
  unfold wasH
  rw [List.range_succ, List.any_append]
  simp
theorem wasH_stop {P T : Nat → Int} {k n i : Nat} (hk : k < n) (h : (P i == P k && T i == T k) = true) : wasH P T n i = true := by
  unfold wasH
  rw [List.any_eq_true]
  exact ⟨k, by simpa using hk, h⟩
theorem fineH_at {P T : Nat → Int} {n k : Nat} (h : fineH P T n = true) (hk : k < n) : okH P T k = true ∧ wasH P T k k = false := by
  unfold fineH at h
  rw [List.all_eq_true] at h
  have := h k (by simpa using hk)
  simpa using this
theorem okH_iff {P T : Nat → Int} {i : Nat} : okH P T i = true ↔ -1000 ≤ P i ∧ P i ≤ 1000 ∧ -1000 ≤ T i ∧ T i ≤ 1000 := by
  unfold okH
  simp [and_assoc]

/-- What is known of valid hits. -/
structure VH (n : Nat) (P T : Nat → Int) : Prop where
  pos : 1 ≤ n
  few : n ≤ 14
  ok : ∀ i, i < n → -1000 ≤ P i ∧ P i ≤ 1000 ∧ -1000 ≤ T i ∧ T i ≤ 1000
  apart : ∀ i k, i < n → k < n → P i = P k → T i = T k → i = k
theorem vH_iff {n : Nat} {P T : Nat → Int} : vH n P T = true ↔ VH n P T := by
  constructor
  · intro h
    unfold vH at h
    simp only [Bool.and_eq_true, decide_eq_true_eq] at h
    obtain ⟨⟨h1, h2⟩, h3⟩ := h
    have ap : ∀ i k, i < n → k < i → P i = P k → T i = T k → False := by
      intro i k hi hk hp ht
      have := (fineH_at h1 hi).2
      rw [wasH_stop hk (by simp [hp, ht])] at this
      cases this
    refine ⟨h2, h3, fun i hi => okH_iff.1 (fineH_at h1 hi).1, fun i k hi hk hp ht => ?_⟩
    rcases Nat.lt_trichotomy i k with h | h | h
    · exact (ap k i hk h hp.symm ht.symm).elim
    · exact h
    · exact (ap i k hi h hp ht).elim
  · intro h
    unfold vH
    simp only [Bool.and_eq_true, decide_eq_true_eq]
    refine ⟨⟨?_, h.pos⟩, h.few⟩
    unfold fineH
    rw [List.all_eq_true]
    intro i hi
    have hi : i < n := by simpa using hi
    rw [okH_iff.2 (h.ok i hi)]
    simp only [Bool.true_and, Bool.not_eq_true']
    cases hw : wasH P T i i
    · rfl
    · unfold wasH at hw
      rw [List.any_eq_true] at hw
      obtain ⟨k, hk, he⟩ := hw
      have hk : k < i := by simpa using hk
      simp only [Bool.and_eq_true, beq_iff_eq] at he
      have := h.apart i k hi (by omega) he.1 he.2
      omega

/-- The hit a is before the hit b. -/
def bf (P T : Nat → Int) (a b : Nat) : Bool := decide (0 < T b - T a) && decide (P b - P a ≤ T b - T a) && decide (P a - P b ≤ T b - T a)
theorem bf_iff {P T : Nat → Int} {a b : Nat} : bf P T a b = true ↔ 0 < T b - T a ∧ P b - P a ≤ T b - T a ∧ P a - P b ≤ T b - T a := by
  unfold bf
  simp [and_assoc]
theorem bf_self (P T : Nat → Int) (a : Nat) : bf P T a a = false := by unfold bf; simp
theorem bf_trans {P T : Nat → Int} {a b c : Nat} (h : bf P T a b = true) (k : bf P T b c = true) : bf P T a c = true := by
  rw [bf_iff] at *
  omega
theorem bf_asymm {P T : Nat → Int} {a b : Nat} (h : bf P T a b = true) : bf P T b a = false := by
  cases hb : bf P T b a
  · rfl
  · rw [bf_iff] at h hb
    omega
theorem bf_time {P T : Nat → Int} {a b : Nat} (h : bf P T a b = true) : T a < T b := by
  rw [bf_iff] at h
  omega

/-- One of the two is before the other one. -/
def cmpd (P T : Nat → Int) (a b : Nat) : Bool := bf P T a b || bf P T b a
/-- What is before a hit, and behind it, as bits. -/
def pastM (n : Nat) (P T : Nat → Int) (b : Nat) : Nat := mk (fun a => bf P T a b) n
def futM (n : Nat) (P T : Nat → Int) (a : Nat) : Nat := mk (fun b => bf P T a b) n
/-- What a hit knows of, from above. -/
def knowM (n : Nat) (P T : Nat → Int) (a : Nat) : Nat := mk (fun i => cmpd P T a (n - 1 - i)) n

theorem known (n : Nat) (P T : Nat → Int) : Known n (cmpd P T) (fun i => pastM n P T i ||| futM n P T i) (knowM n P T) where
  symm i j := by unfold cmpd; exact Bool.or_comm _ _
  self i := by unfold cmpd; rw [bf_self]; rfl
  low i _ j := by
    show (pastM n P T i ||| futM n P T i).testBit j = _
    unfold pastM futM cmpd
    rw [Nat.testBit_or, mk_bit, mk_bit]
    cases decide (j < n) <;> simp [Bool.or_comm]
  high i _ j hj := by
    unfold knowM
    rw [mk_bit, show n - 1 - (n - 1 - j) = j by omega]
    have : n - 1 - j < n := by omega
    simp [this]
  top i _ := mk_lt _ _

/-- The longest layer. -/
def layS (n : Nat) (P T : Nat → Int) : Nat := srch n (fun i => pastM n P T i ||| futM n P T i) n 0 0 0
def layR (n : Nat) (P T : Nat → Int) : Nat := down n (knowM n P T) (2 ^ n) (2 ^ n - 1) 0
theorem lay_rev (n : Nat) (P T : Nat → Int) : Rev n (layS n P T) (layR n P T) := srch_all (known n P T)
/-- The longest layer as a list, from below and from above. -/
def layL (n : Nat) (P T : Nat → Int) : List Nat := els (layS n P T).testBit n
theorem lay_list (n : Nat) (P T : Nat → Int) : els (fun i => (layR n P T).testBit (n - 1 - i)) n = layL n P T := els_congr fun i hi => ((lay_rev n P T).2.2 i hi).symm

end Go.Firn
