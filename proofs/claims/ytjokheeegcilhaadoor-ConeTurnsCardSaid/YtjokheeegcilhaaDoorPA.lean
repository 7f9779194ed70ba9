/- Sets of small numbers as bits, how many they hold, and the first one of the most that holds no two that know of each other: by hit, and by counting down. The members of a set of bits, in ascending order: taken off one by one from below, and gone over. Which hits are valid, and which one is before another one: the plain laws. What the two loops that lay an order have come to. The reference's longest layer: what its loops have come to. Which lists are layers, and chains: the plain laws. What is before a hit, and before what there is none: the plain laws. Hits that are moved, and turned: the plain laws. The layers that come about one by one: the plain law. -/
import Derived.Lib.TrailingZeros
namespace Go.Firn

/-- The set of the i < n with p i, as bits. -/
def mk (p : Nat → Bool) : Nat → Nat
  | 0 => 0
  | n + 1 => mk p n ||| (if p n then 2 ^ n else 0)

theorem mk_bit (p : Nat → Bool) (n i : Nat) : (mk p n).testBit i = (decide (i < n) && p i) := by
  induction n with
  | zero => simp [mk]
  | succ n ih =>
    rw [mk, Nat.testBit_or, ih]
    by_cases h : p n = true
    · rw [if_pos h, Nat.testBit_two_pow]
      by_cases hi : n = i
      · subst hi; simp [h]
      · have : (decide (i < n)) = decide (i < n + 1) := by congr 1; apply propext; omega
        simp [hi, this]
    · rw [if_neg h, Nat.zero_testBit]
      by_cases hi : n = i
      · subst hi; simp [h]
      · have : (decide (i < n)) = decide (i < n + 1) := by congr 1; apply propext; omega
        simp [this]

theorem lt_of_bits {s n : Nat} (h : ∀ i, n ≤ i → s.testBit i = false) : s < 2 ^ n := Nat.lt_pow_two_of_testBit s h
theorem bit_ge {s n i : Nat} (h : s < 2 ^ n) (hi : n ≤ i) : s.testBit i = false := Nat.testBit_lt_two_pow (Nat.lt_of_lt_of_le h (Nat.pow_le_pow_right (by omega) hi))
theorem mk_lt (p : Nat → Bool) (n : Nat) : mk p n < 2 ^ n := lt_of_bits fun i hi => by rw [mk_bit]; simp; omega

/-- How many i < n have p i. -/
def cnt (p : Nat → Bool) : Nat → Nat
  | 0 => 0
  | n + 1 => cnt p n + (if p n then 1 else 0)
theorem cnt_le (p : Nat → Bool) (n : Nat) : cnt p n ≤ n := by
  induction n with
  | zero => simp [cnt]
  | succ n ih => rw [cnt]; split <;> omega
theorem cnt_congr {p q : Nat → Bool} {n : Nat} (h : ∀ i, i < n → p i = q i) : cnt p n = cnt q n := by
  induction n with
  | zero => rfl
  | succ n ih => rw [cnt, cnt, ih fun i hi => h i (by omega), h n (by omega)]
theorem cnt_add (p : Nat → Bool) (a b : Nat) : cnt p (a + b) = cnt p a + cnt (fun i => p (a + i)) b := by
  induction b with
  | zero => rfl
  | succ b ih => rw [← Nat.add_assoc, cnt, ih, cnt, Nat.add_assoc]
theorem cnt_rev (p : Nat → Bool) (n : Nat) : cnt (fun i => p (n - 1 - i)) n = cnt p n := by
  induction n generalizing p with
  | zero => rfl
  | succ n ih =>
    rw [cnt]
    rw [show n + 1 = 1 + n by omega, cnt_add p 1 n]
    have e : cnt (fun i => p (1 + n - 1 - i)) n = cnt (fun i => p (1 + i)) n := by
      rw [← ih (fun i => p (1 + i))]
      refine cnt_congr fun i hi => ?_
      congr 1; omega
    rw [e]
    simp [cnt]
    omega

/-- The set s of n numbers holds no two that know of each other. -/
def Free (n : Nat) (C : Nat → Nat → Bool) (p : Nat → Bool) : Prop := ∀ i, i < n → p i = true → ∀ j, j < n → p j = true → C i j = false

/-- A set by bits from below, and by bits from above. -/
def Rev (n s r : Nat) : Prop := s < 2 ^ n ∧ r < 2 ^ n ∧ ∀ i, i < n → s.testBit i = r.testBit (n - 1 - i)

theorem Rev.zero (n : Nat) : Rev n 0 0 := ⟨Nat.two_pow_pos n, Nat.two_pow_pos n, fun i _ => by simp⟩
theorem Rev.cnt {n s r : Nat} (h : Rev n s r) : cnt s.testBit n = cnt r.testBit n := by
  rw [← cnt_rev r.testBit]
  exact cnt_congr fun i hi => h.2.2 i hi

/-- Hit by hit, with it or without it: what is best. -/
def srch (n : Nat) (K : Nat → Nat) : Nat → Nat → Nat → Nat → Nat
  | 0, _, s, best => if cnt best.testBit n < cnt s.testBit n then s else best
  | k + 1, i, s, best =>
    if cnt s.testBit n + (k + 1) ≤ cnt best.testBit n then best
    else srch n K k (i + 1) s (if K i &&& s = 0 then srch n K k (i + 1) (s ||| 2 ^ i) best else best)

/-- Whether a set told from above is free. -/
def frees (n : Nat) (L : Nat → Nat) (r : Nat) : Bool := (List.range n).all fun a => !(r.testBit (n - 1 - a)) || L a &&& r == 0
/-- One set is tried. -/
def pick (n : Nat) (L : Nat → Nat) (r best : Nat) : Nat := if frees n L r = true ∧ cnt best.testBit n < cnt r.testBit n then r else best
/-- The sets from r on downwards, c of them. -/
def down (n : Nat) (L : Nat → Nat) : Nat → Nat → Nat → Nat
  | 0, _, best => best
  | c + 1, r, best => down n L c (r - 1) (pick n L r best)

theorem down_add (n : Nat) (L : Nat → Nat) (a b r best : Nat) : down n L (a + b) r best = down n L b (r - a) (down n L a r best) := by
  induction a generalizing r best with
  | zero => simp [down]
  | succ a ih =>
    rw [show a + 1 + b = (a + b) + 1 by omega, down, ih, down]
    congr 1; omega

/-- Nothing turns where no set has more. -/
theorem down_same {n : Nat} {L : Nat → Nat} {c r best : Nat} (h : ∀ t, t < c → frees n L (r - t) = true → ¬ cnt best.testBit n < cnt (r - t).testBit n) : down n L c r best = best := by
  induction c generalizing r with
  | zero => rfl
  | succ c ih =>
    have h0 : pick n L r best = best := by
      unfold pick
      rw [if_neg]
      rintro ⟨h1, h2⟩
      exact h 0 (by omega) (by simpa using h1) (by simpa using h2)
    rw [down, h0]
    refine ih fun t ht h1 => ?_
    have := h (t + 1) (by omega)
    rw [show r - (t + 1) = r - 1 - t by omega] at this
    exact this h1

/-- The bits of P * 2 ^ k + t. -/
theorem bits_high {P k t : Nat} (ht : t < 2 ^ k) (j : Nat) : (P * 2 ^ k + t).testBit (k + j) = P.testBit j := by
  rw [Nat.mul_comm, Nat.testBit_two_pow_mul_add _ ht, if_neg (by omega)]
  congr 1; omega
theorem bits_low {P k t : Nat} (ht : t < 2 ^ k) {j : Nat} (hj : j < k) : (P * 2 ^ k + t).testBit j = t.testBit j := by
  rw [Nat.mul_comm, Nat.testBit_two_pow_mul_add _ ht]
  simp [hj]

/-- What the two roads know. -/
structure Known (n : Nat) (C : Nat → Nat → Bool) (K L : Nat → Nat) : Prop where
  symm : ∀ i j, C i j = C j i
  self : ∀ i, C i i = false
  low : ∀ i, i < n → ∀ j, (K i).testBit j = (decide (j < n) && C i j)
  high : ∀ i, i < n → ∀ j, j < n → (L i).testBit (n - 1 - j) = C i j
  top : ∀ i, i < n → L i < 2 ^ n

theorem Known.meet {n : Nat} {C : Nat → Nat → Bool} {K L : Nat → Nat} (h : Known n C K L) {i s : Nat} (hi : i < n) : K i &&& s = 0 ↔ ∀ j, j < n → s.testBit j = true → C i j = false := by
  constructor
  · intro h0 j hj hs
    have : (K i &&& s).testBit j = false := by rw [h0]; simp
    rw [Nat.testBit_and, hs, h.low i hi] at this
    simpa [hj] using this
  · intro h0
    refine Nat.eq_of_testBit_eq fun j => ?_
    rw [Nat.testBit_and, h.low i hi, Nat.zero_testBit]
    by_cases hj : j < n
    · cases hs : s.testBit j
      · simp
      · simp [h0 j hj hs]
    · simp [hj]

theorem Known.free {n : Nat} {C : Nat → Nat → Bool} {K L : Nat → Nat} (h : Known n C K L) {r : Nat} : frees n L r = true ↔ Free n C (fun a => r.testBit (n - 1 - a)) := by
  unfold frees Free
  rw [List.all_eq_true]
  constructor
  · intro h0 i hi hp j hj hq
    have := h0 i (by simpa using hi)
    simp only [hp, Bool.not_true, Bool.false_or, beq_iff_eq] at this
    have e : (L i &&& r).testBit (n - 1 - j) = false := by rw [this]; simp
    have hq : r.testBit (n - 1 - j) = true := hq
    rw [Nat.testBit_and, hq, h.high i hi j hj] at e
    simpa using e
  · intro h0 a ha
    have ha : a < n := by simpa using ha
    cases hp : r.testBit (n - 1 - a)
    · simp
    · simp only [Bool.not_true, Bool.false_or, beq_iff_eq]
      refine Nat.eq_of_testBit_eq fun j => ?_
      rw [Nat.testBit_and, Nat.zero_testBit]
      by_cases hj : j < n
      · have e : j = n - 1 - (n - 1 - j) := by omega
        rw [e, h.high a ha _ (by omega), ← e]
        cases hs : r.testBit j
        · simp
        · have := h0 a ha hp (n - 1 - j) (by omega) (by show r.testBit (n - 1 - (n - 1 - j)) = true; rw [← e]; exact hs)
          simp [this]
      · rw [bit_ge (h.top a ha) (by omega)]
        simp

theorem srch_down {n : Nat} {C : Nat → Nat → Bool} {K L : Nat → Nat} (h : Known n C K L) (k : Nat) : ∀ (i s P best rb : Nat), i + k = n → s < 2 ^ i → P < 2 ^ i →
    (∀ a, a < i → s.testBit a = P.testBit (i - 1 - a)) → Free n C s.testBit → Rev n best rb →
    Rev n (srch n K k i s best) (down n L (2 ^ k) (P * 2 ^ k + 2 ^ k - 1) rb) := by
  induction k with
  | zero =>
    intro i s P best rb hn hs hP hsP hf hb
    have e : i = n := by omega
    subst e
    have hr : Rev i s P := ⟨hs, hP, hsP⟩
    have hfr : frees i L P = true := by
      rw [h.free]
      intro a ha hp b hb hq
      have hp : P.testBit (i - 1 - a) = true := hp
      have hq : P.testBit (i - 1 - b) = true := hq
      exact hf a ha (by rw [hsP a ha]; exact hp) b hb (by rw [hsP b hb]; exact hq)
    have e1 : P * 2 ^ 0 + 2 ^ 0 - 1 = P := by simp
    rw [e1, show (2 : Nat) ^ 0 = 0 + 1 from rfl, down, down, srch, pick, hfr, hb.cnt, hr.cnt]
    by_cases hc : cnt rb.testBit i < cnt P.testBit i
    · rw [if_pos hc, if_pos ⟨rfl, hc⟩]; exact hr
    · rw [if_neg hc, if_neg (fun x => hc x.2)]; exact hb
  | succ k ih =>
    intro i s P best rb hn hs hP hsP hf hb
    have hi : i < n := by omega
    have h2 : (2 : Nat) ^ (k + 1) = 2 ^ k + 2 ^ k := by rw [Nat.pow_succ]; omega
    have hpos := Nat.two_pow_pos k
    have eu : P * 2 ^ (k + 1) + 2 ^ (k + 1) - 1 = (2 * P + 1) * 2 ^ k + 2 ^ k - 1 := by
      rw [h2, Nat.mul_add, Nat.add_mul, Nat.mul_assoc]
      omega
    have el : P * 2 ^ (k + 1) + 2 ^ (k + 1) - 1 - 2 ^ k = (2 * P) * 2 ^ k + 2 ^ k - 1 := by
      rw [h2, Nat.mul_add, Nat.mul_assoc]
      omega
    -- the numbers of a block, by their bits
    have blk : ∀ t, t < 2 ^ (k + 1) → ∃ u, u < 2 ^ (k + 1) ∧ P * 2 ^ (k + 1) + 2 ^ (k + 1) - 1 - t = P * 2 ^ (k + 1) + u := fun t ht => ⟨2 ^ (k + 1) - 1 - t, by omega, by omega⟩
    have hcs : cnt s.testBit n = cnt s.testBit i := by
      rw [← hn, cnt_add]
      have : cnt (fun j => s.testBit (i + j)) (k + 1) = cnt (fun _ => false) (k + 1) := cnt_congr fun j _ => bit_ge hs (by omega)
      rw [this]
      have z : ∀ m, cnt (fun _ => false) m = 0 := fun m => by induction m with
        | zero => rfl
        | succ m ih => rw [cnt, ih]; rfl
      rw [z]; rfl
    have size : ∀ u, u < 2 ^ (k + 1) → cnt (P * 2 ^ (k + 1) + u).testBit n ≤ cnt s.testBit n + (k + 1) := by
      intro u hu
      rw [← cnt_rev, hcs, ← hn, cnt_add]
      have e : cnt (fun a => (P * 2 ^ (k + 1) + u).testBit (i + (k + 1) - 1 - a)) i = cnt s.testBit i := by
        refine cnt_congr fun a ha => ?_
        rw [show i + (k + 1) - 1 - a = (k + 1) + (i - 1 - a) by omega, bits_high hu, ← hsP a ha]
      rw [e]
      have := cnt_le (fun j => (P * 2 ^ (k + 1) + u).testBit (i + (k + 1) - 1 - (i + j))) (k + 1)
      omega
    rw [srch]
    by_cases hc : cnt s.testBit n + (k + 1) ≤ cnt best.testBit n
    · rw [if_pos hc, down_same]
      · exact hb
      · intro t ht _
        obtain ⟨u, hu, e⟩ := blk t ht
        rw [e, ← hb.cnt]
        have := size u hu
        omega
    · rw [if_neg hc]
      have step : Rev n (if K i &&& s = 0 then srch n K k (i + 1) (s ||| 2 ^ i) best else best) (down n L (2 ^ k) ((2 * P + 1) * 2 ^ k + 2 ^ k - 1) rb) := by
        by_cases hm : K i &&& s = 0
        · rw [if_pos hm]
          have hm' := (h.meet hi).1 hm
          have hbit : ∀ a, (s ||| 2 ^ i).testBit a = (s.testBit a || decide (i = a)) := fun a => by rw [Nat.testBit_or, Nat.testBit_two_pow]
          refine ih (i + 1) (s ||| 2 ^ i) (2 * P + 1) best rb (by omega) ?_ ?_ ?_ ?_ hb
          · exact Nat.or_lt_two_pow (by rw [Nat.pow_succ]; omega) (by rw [Nat.pow_succ]; have := Nat.two_pow_pos i; omega)
          · rw [Nat.pow_succ]; omega
          · intro a ha
            rw [hbit]
            by_cases hai : a = i
            · subst hai
              rw [show a + 1 - 1 - a = 0 by omega]
              simp [Nat.testBit_zero]
            · rw [show i + 1 - 1 - a = (i - 1 - a) + 1 by omega, Nat.testBit_succ, show (2 * P + 1) / 2 = P by omega, ← hsP a (by omega)]
              have : ¬ i = a := fun x => hai x.symm
              simp [this]
          · intro a ha hp b hb hq
            rw [hbit] at hp hq
            by_cases ha1 : i = a
            · by_cases hb1 : i = b
              · subst ha1; subst hb1; exact h.self _
              · subst ha1
                exact hm' b hb (by simpa [hb1] using hq)
            · by_cases hb1 : i = b
              · subst hb1
                rw [h.symm]
                exact hm' a ha (by simpa [ha1] using hp)
              · exact hf a ha (by simpa [ha1] using hp) b hb (by simpa [hb1] using hq)
        · rw [if_neg hm, down_same]
          · exact hb
          · intro t ht hfr
            exfalso
            apply hm
            rw [h.meet hi]
            rw [h.free] at hfr
            have ex : ∃ u, u < 2 ^ k ∧ (2 * P + 1) * 2 ^ k + 2 ^ k - 1 - t = (2 * P + 1) * 2 ^ k + u := ⟨2 ^ k - 1 - t, by omega, by omega⟩
            obtain ⟨u, hu, e⟩ := ex
            rw [e] at hfr
            intro j hj hsj
            have hji : j < i := by
              rcases Nat.lt_or_ge j i with x | x
              · exact x
              · rw [bit_ge hs x] at hsj; cases hsj
            refine hfr i hi ?_ j hj ?_
            · show ((2 * P + 1) * 2 ^ k + u).testBit (n - 1 - i) = true
              rw [show n - 1 - i = k + 0 by omega, bits_high hu]
              simp [Nat.testBit_zero]
            · show ((2 * P + 1) * 2 ^ k + u).testBit (n - 1 - j) = true
              rw [show n - 1 - j = k + (i - 1 - j + 1) by omega, bits_high hu, Nat.testBit_succ, show (2 * P + 1) / 2 = P by omega, ← hsP j hji]
              exact hsj
      rw [h2, down_add, ← h2, el, eu]
      refine ih (i + 1) s (2 * P) _ _ (by omega) (by rw [Nat.pow_succ]; omega) (by rw [Nat.pow_succ]; omega) ?_ hf step
      intro a ha
      by_cases hai : a = i
      · subst hai
        rw [show a + 1 - 1 - a = 0 by omega, bit_ge hs (Nat.le_refl _)]
        simp [Nat.testBit_zero]
      · rw [show i + 1 - 1 - a = (i - 1 - a) + 1 by omega, Nat.testBit_succ, show (2 * P) / 2 = P by omega, ← hsP a (by omega)]

/-- The whole search: the best from below is the best from above. -/
theorem srch_all {n : Nat} {C : Nat → Nat → Bool} {K L : Nat → Nat} (h : Known n C K L) : Rev n (srch n K n 0 0 0) (down n L (2 ^ n) (2 ^ n - 1) 0) := by
  have := srch_down h n 0 0 0 0 0 (by omega) (by simp) (by simp) (fun a ha => by omega) (fun a _ hp => by simp at hp) (Rev.zero n)
  simpa using this

end Go.Firn

namespace Go.Firn

/-- The i < n with p i. -/
def els (p : Nat → Bool) (n : Nat) : List Nat := (List.range n).filter p
theorem els_zero (p : Nat → Bool) : els p 0 = [] := rfl
theorem els_succ (p : Nat → Bool) (n : Nat) : els p (n + 1) = els p n ++ (if p n then [n] else []) := by
  unfold els
  rw [List.range_succ, List.filter_append]
  congr 1
  by_cases h : p n = true <;> simp [h]
theorem els_length (p : Nat → Bool) (n : Nat) : (els p n).length = cnt p n := by
  induction n with
  | zero => rfl
  | succ n ih => rw [els_succ, List.length_append, ih, cnt]; split <;> rfl
theorem els_congr {p q : Nat → Bool} {n : Nat} (h : ∀ i, i < n → p i = q i) : els p n = els q n := by
  unfold els
  exact List.filter_congr fun i hi => h i (by simpa using hi)
theorem els_none {p : Nat → Bool} {n : Nat} (h : ∀ i, i < n → p i = false) : els p n = [] := by
  rw [els_congr h]
  unfold els
  simp
theorem els_more {p : Nat → Bool} {n m : Nat} (h : ∀ i, n ≤ i → p i = false) (hm : n ≤ m) : els p m = els p n := by
  induction m with
  | zero => have : n = 0 := by omega
            subst this; rfl
  | succ m ih =>
    rcases Nat.lt_or_ge m n with hn | hn
    · have : n = m + 1 := by omega
      subst this; rfl
    · rw [els_succ, ih hn, h m hn]; simp
theorem els_cons {p q : Nat → Bool} {n k : Nat} (hk : k < n) (hp : p k = true) (hlt : ∀ j, j < k → p j = false) (hq : ∀ j, q j = (p j && !decide (j = k))) : els p n = k :: els q n := by
  induction n with
  | zero => omega
  | succ n ih =>
    rw [els_succ, els_succ]
    by_cases h : k = n
    · subst h
      rw [els_none hlt, els_none (n := k) fun j hj => by rw [hq, hlt j hj]; rfl, hp, hq]
      simp
    · rw [ih (by omega), hq n]
      have : (decide (n = k)) = false := decide_eq_false fun x => h x.symm
      rw [this]
      simp
theorem els_mem {p : Nat → Bool} {n i : Nat} : i ∈ els p n ↔ i < n ∧ p i = true := by simp [els]
theorem els_lt {p : Nat → Bool} {n : Nat} {i : Nat} (h : i < (els p n).length) : (els p n).getD i 0 < n ∧ p ((els p n).getD i 0) = true := by
  have : (els p n).getD i 0 ∈ els p n := by rw [List.getD, List.getElem?_eq_getElem h]; exact List.getElem_mem h
  exact els_mem.1 this

/-- The lowest bit, and what is left without it. -/
theorem low_bit {s n : Nat} (h0 : s ≠ 0) (hs : s < 2 ^ n) : Lib.ctz n s < n ∧ s.testBit (Lib.ctz n s) = true ∧ (∀ j, j < Lib.ctz n s → s.testBit j = false) ∧ ∀ j, (s &&& (s - 1)).testBit j = (s.testBit j && !decide (j = Lib.ctz n s)) := by
  have hc : Lib.ctz n s = Lib.ctzFrom n s := by unfold Lib.ctz; rw [if_neg h0]
  obtain ⟨m, hm, hk⟩ := Lib.ctzFrom_spec n s (by omega) hs
  rw [hc]
  generalize Lib.ctzFrom n s = k at hm hk
  have b1 : ∀ j, s.testBit j = (decide (k ≤ j) && (2 * m + 1).testBit (j - k)) := fun j => by
    rw [hm, Nat.testBit_two_pow_mul]
  have hpos := Nat.two_pow_pos k
  have hs1 : s - 1 = 2 ^ k * (2 * m) + (2 ^ k - 1) := by rw [hm, Nat.mul_add]; omega
  have b2 : ∀ j, (s - 1).testBit j = if j < k then (2 ^ k - 1).testBit j else (2 * m).testBit (j - k) := fun j => by
    rw [hs1, Nat.testBit_two_pow_mul_add _ (by omega)]
  refine ⟨hk, ?_, fun j hj => ?_, fun j => ?_⟩
  · rw [b1]; simp
  · rw [b1]; simp; omega
  · rw [Nat.testBit_and, b2]
    by_cases hj : j < k
    · have : s.testBit j = false := by rw [b1]; simp; omega
      simp [this]
    · rw [if_neg hj]
      by_cases e : j = k
      · subst e; simp
      · have : s.testBit j = (2 * m).testBit (j - k) := by
          rw [b1]
          obtain ⟨d, hd⟩ : ∃ d, j - k = d + 1 := ⟨j - k - 1, by omega⟩
          rw [hd, Nat.testBit_succ, Nat.testBit_succ]
          have : (2 * m + 1) / 2 = 2 * m / 2 := by omega
          rw [this]
          simp; omega
        rw [this]
        simp [e]

theorem and_pred_lt {s : Nat} (h0 : s ≠ 0) : s &&& (s - 1) < s := Nat.lt_of_le_of_lt Nat.and_le_right (by omega)

/-- One member is taken off. -/
theorem els_step {s n : Nat} (h0 : s ≠ 0) (hs : s < 2 ^ n) : els s.testBit n = Lib.ctz n s :: els (s &&& (s - 1)).testBit n := by
  obtain ⟨h1, h2, h3, h4⟩ := low_bit h0 hs
  exact els_cons h1 h2 h3 h4
theorem els_nil (n : Nat) : els (0 : Nat).testBit n = [] := els_none fun i _ => by simp

end Go.Firn

namespace Go.Firn

/-- A hit's place and time are in reach. -/
def okH (P T : Nat → Int) (i : Nat) : Bool := decide (-1000 ≤ P i) && decide (P i ≤ 1000) && decide (-1000 ≤ T i) && decide (T i ≤ 1000)
/-- The hit i is one of the first k. -/
def wasH (P T : Nat → Int) (k i : Nat) : Bool := (List.range k).any fun j => P i == P j && T i == T j
/-- The first k hits are in reach, and no two of them are the same. -/
def fineH (P T : Nat → Int) (k : Nat) : Bool := (List.range k).all fun i => okH P T i && !wasH P T i i
def vH (n : Nat) (P T : Nat → Int) : Bool := fineH P T n && decide (1 ≤ n) && decide (n ≤ 14)

theorem fineH_zero (P T : Nat → Int) : fineH P T 0 = true := rfl
theorem fineH_succ (P T : Nat → Int) (k : Nat) : fineH P T (k + 1) = (fineH P T k && (okH P T k && !wasH P T k k)) := by
  unfold fineH
  rw [List.range_succ, List.all_append]
  simp
theorem fineH_stop {P T : Nat → Int} {k n : Nat} (hk : k < n) (h : (okH P T k && !wasH P T k k) = false) : fineH P T n = false := by
  unfold fineH
  rw [List.all_eq_false]
  exact ⟨k, by simpa using hk, by rw [h]; simp⟩
theorem wasH_zero (P T : Nat → Int) (i : Nat) : wasH P T 0 i = false := rfl
theorem wasH_succ (P T : Nat → Int) (k i : Nat) : wasH P T (k + 1) i = (wasH P T k i || (P i == P k && T i == T k)) := by
  unfold wasH
  rw [List.range_succ, List.any_append]
  simp
theorem wasH_stop {P T : Nat → Int} {k n i : Nat} (hk : k < n) (h : (P i == P k && T i == T k) = true) : wasH P T n i = true := by
  unfold wasH
  rw [List.any_eq_true]
  exact ⟨k, by simpa using hk, h⟩
theorem fineH_at {P T : Nat → Int} {n k : Nat} (h : fineH P T n = true) (hk : k < n) : okH P T k = true ∧ wasH P T k k = false := by
  unfold fineH at h
  rw [List.all_eq_true] at h
  have := h k (by simpa using hk)
  simpa using this
theorem okH_iff {P T : Nat → Int} {i : Nat} : okH P T i = true ↔ -1000 ≤ P i ∧ P i ≤ 1000 ∧ -1000 ≤ T i ∧ T i ≤ 1000 := by
  unfold okH
  simp [and_assoc]

/-- What is known of valid hits. -/
structure VH (n : Nat) (P T : Nat → Int) : Prop where
  pos : 1 ≤ n
  few : n ≤ 14
  ok : ∀ i, i < n → -1000 ≤ P i ∧ P i ≤ 1000 ∧ -1000 ≤ T i ∧ T i ≤ 1000
  apart : ∀ i k, i < n → k < n → P i = P k → T i = T k → i = k
theorem vH_iff {n : Nat} {P T : Nat → Int} : vH n P T = true ↔ VH n P T := by
  constructor
  · intro h
    unfold vH at h
    simp only [Bool.and_eq_true, decide_eq_true_eq] at h
    obtain ⟨⟨h1, h2⟩, h3⟩ := h
    have ap : ∀ i k, i < n → k < i → P i = P k → T i = T k → False := by
      intro i k hi hk hp ht
      have := (fineH_at h1 hi).2
      rw [wasH_stop hk (by simp [hp, ht])] at this
      cases this
    refine ⟨h2, h3, fun i hi => okH_iff.1 (fineH_at h1 hi).1, fun i k hi hk hp ht => ?_⟩
    rcases Nat.lt_trichotomy i k with h | h | h
    · exact (ap k i hk h hp.symm ht.symm).elim
    · exact h
    · exact (ap i k hi h hp ht).elim
  · intro h
    unfold vH
    simp only [Bool.and_eq_true, decide_eq_true_eq]
    refine ⟨⟨?_, h.pos⟩, h.few⟩
    unfold fineH
    rw [List.all_eq_true]
    intro i hi
    have hi : i < n := by simpa using hi
    rw [okH_iff.2 (h.ok i hi)]
    simp only [Bool.true_and, Bool.not_eq_true']
    cases hw : wasH P T i i
    · rfl
    · unfold wasH at hw
      rw [List.any_eq_true] at hw
      obtain ⟨k, hk, he⟩ := hw
      have hk : k < i := by simpa using hk
      simp only [Bool.and_eq_true, beq_iff_eq] at he
      have := h.apart i k hi (by omega) he.1 he.2
      omega

/-- The hit a is before the hit b. -/
def bf (P T : Nat → Int) (a b : Nat) : Bool := decide (0 < T b - T a) && decide (P b - P a ≤ T b - T a) && decide (P a - P b ≤ T b - T a)
theorem bf_iff {P T : Nat → Int} {a b : Nat} : bf P T a b = true ↔ 0 < T b - T a ∧ P b - P a ≤ T b - T a ∧ P a - P b ≤ T b - T a := by
  unfold bf
  simp [and_assoc]
theorem bf_self (P T : Nat → Int) (a : Nat) : bf P T a a = false := by unfold bf; simp
theorem bf_trans {P T : Nat → Int} {a b c : Nat} (h : bf P T a b = true) (k : bf P T b c = true) : bf P T a c = true := by
  rw [bf_iff] at *
  omega
theorem bf_asymm {P T : Nat → Int} {a b : Nat} (h : bf P T a b = true) : bf P T b a = false := by
  cases hb : bf P T b a
  · rfl
  · rw [bf_iff] at h hb
    omega
theorem bf_time {P T : Nat → Int} {a b : Nat} (h : bf P T a b = true) : T a < T b := by
  rw [bf_iff] at h
  omega

/-- One of the two is before the other one. -/
def cmpd (P T : Nat → Int) (a b : Nat) : Bool := bf P T a b || bf P T b a
/-- What is before a hit, and behind it, as bits. -/
def pastM (n : Nat) (P T : Nat → Int) (b : Nat) : Nat := mk (fun a => bf P T a b) n
def futM (n : Nat) (P T : Nat → Int) (a : Nat) : Nat := mk (fun b => bf P T a b) n
/-- What a hit knows of, from above. -/
def knowM (n : Nat) (P T : Nat → Int) (a : Nat) : Nat := mk (fun i => cmpd P T a (n - 1 - i)) n

theorem known (n : Nat) (P T : Nat → Int) : Known n (cmpd P T) (fun i => pastM n P T i ||| futM n P T i) (knowM n P T) where
  symm i j := by unfold cmpd; exact Bool.or_comm _ _
  self i := by unfold cmpd; rw [bf_self]; rfl
  low i _ j := by
    show (pastM n P T i ||| futM n P T i).testBit j = _
    unfold pastM futM cmpd
    rw [Nat.testBit_or, mk_bit, mk_bit]
    cases decide (j < n) <;> simp [Bool.or_comm]
  high i _ j hj := by
    unfold knowM
    rw [mk_bit, show n - 1 - (n - 1 - j) = j by omega]
    have : n - 1 - j < n := by omega
    simp [this]
  top i _ := mk_lt _ _

/-- The longest layer. -/
def layS (n : Nat) (P T : Nat → Int) : Nat := srch n (fun i => pastM n P T i ||| futM n P T i) n 0 0 0
def layR (n : Nat) (P T : Nat → Int) : Nat := down n (knowM n P T) (2 ^ n) (2 ^ n - 1) 0
theorem lay_rev (n : Nat) (P T : Nat → Int) : Rev n (layS n P T) (layR n P T) := srch_all (known n P T)
/-- The longest layer as a list, from below and from above. -/
def layL (n : Nat) (P T : Nat → Int) : List Nat := els (layS n P T).testBit n
theorem lay_list (n : Nat) (P T : Nat → Int) : els (fun i => (layR n P T).testBit (n - 1 - i)) n = layL n P T := els_congr fun i hi => ((lay_rev n P T).2.2 i hi).symm

end Go.Firn

namespace Go.Firn

/-- What is before the hits: of the hits below A, and of A for the hits below B. -/
def pastP (P T : Nat → Int) (A B i : Nat) : Nat := mk (fun a => bf P T a i) A ||| (if i < B ∧ bf P T A i = true then 2 ^ A else 0)
def futP (n : Nat) (P T : Nat → Int) (A B i : Nat) : Nat := if i < A then futM n P T i else if i = A then mk (fun b => bf P T A b) B else 0

theorem pastP_zero (P T : Nat → Int) (i : Nat) : pastP P T 0 0 i = 0 := by simp [pastP, mk]
theorem futP_zero (n : Nat) (P T : Nat → Int) (i : Nat) : futP n P T 0 0 i = 0 := by simp [futP, mk]
theorem pastP_next {n : Nat} {P T : Nat → Int} {A i : Nat} (hi : i < n) : pastP P T A n i = pastP P T (A + 1) 0 i := by
  unfold pastP
  simp only [hi, true_and, Nat.not_lt_zero, false_and, if_false, Nat.or_zero]
  rfl
theorem futP_next {n : Nat} {P T : Nat → Int} {A i : Nat} : futP n P T A n i = futP n P T (A + 1) 0 i := by
  unfold futP
  by_cases h : i < A
  · rw [if_pos h, if_pos (by omega)]
  · by_cases e : i = A
    · rw [if_neg h, if_pos e, if_pos (by omega), e]; rfl
    · rw [if_neg h, if_neg e, if_neg (by omega)]
      by_cases e2 : i = A + 1
      · rw [if_pos e2]; rfl
      · rw [if_neg e2]
theorem pastP_end {n : Nat} {P T : Nat → Int} {i : Nat} : pastP P T n 0 i = pastM n P T i := by
  unfold pastP pastM
  simp
theorem futP_end {n : Nat} {P T : Nat → Int} {i : Nat} (hi : i < n) : futP n P T n 0 i = futM n P T i := by
  unfold futP
  rw [if_pos hi]
theorem pastP_yes {P T : Nat → Int} {A B i : Nat} (h : bf P T A B = true) : (if i = B then pastP P T A B B ||| 2 ^ A else pastP P T A B i) = pastP P T A (B + 1) i := by
  by_cases e : i = B
  · subst e
    rw [if_pos rfl]
    unfold pastP
    rw [if_neg (by omega), if_pos ⟨by omega, h⟩]
    simp
  · rw [if_neg e]
    unfold pastP
    have : (i < B ∧ bf P T A i = true) ↔ (i < B + 1 ∧ bf P T A i = true) := by
      constructor
      · rintro ⟨h1, h2⟩; exact ⟨by omega, h2⟩
      · rintro ⟨h1, h2⟩; exact ⟨by omega, h2⟩
    simp only [this]
theorem futP_yes {n : Nat} {P T : Nat → Int} {A B i : Nat} (h : bf P T A B = true) : (if i = A then futP n P T A B A ||| 2 ^ B else futP n P T A B i) = futP n P T A (B + 1) i := by
  by_cases e : i = A
  · subst e
    rw [if_pos rfl]
    unfold futP
    rw [if_neg (by omega), if_pos rfl, if_neg (by omega), if_pos rfl, mk, h]
    simp
  · rw [if_neg e]
    unfold futP
    rw [if_neg e, if_neg e]
theorem pastP_no {P T : Nat → Int} {A B i : Nat} (h : bf P T A B = false) : pastP P T A B i = pastP P T A (B + 1) i := by
  unfold pastP
  have : (i < B ∧ bf P T A i = true) ↔ (i < B + 1 ∧ bf P T A i = true) := by
    constructor
    · rintro ⟨h1, h2⟩; exact ⟨by omega, h2⟩
    · rintro ⟨h1, h2⟩
      refine ⟨?_, h2⟩
      by_cases e : i = B
      · subst e; rw [h] at h2; cases h2
      · omega
  simp only [this]
theorem futP_no {n : Nat} {P T : Nat → Int} {A B i : Nat} (h : bf P T A B = false) : futP n P T A B i = futP n P T A (B + 1) i := by
  unfold futP
  by_cases e : i = A
  · subst e
    rw [if_neg (by omega), if_pos rfl, if_neg (by omega), if_pos rfl, mk, h]
    simp
  · rw [if_neg e, if_neg e]
theorem pastP_lt {n : Nat} {P T : Nat → Int} {A B i : Nat} (hn : n ≤ 14) (hA : A < n) : pastP P T A B i < 65536 := by
  have h1 := mk_lt (fun a => bf P T a i) A
  have h2 : 2 ^ A ≤ 2 ^ 14 := Nat.pow_le_pow_right (by omega) (by omega)
  unfold pastP
  refine Nat.lt_of_lt_of_le (Nat.or_lt_two_pow (n := 16) (by omega) ?_) (Nat.le_refl _)
  split <;> omega
theorem futP_lt {n : Nat} {P T : Nat → Int} {A B i : Nat} (hn : n ≤ 14) (hB : B ≤ n) : futP n P T A B i < 65536 := by
  have h2 : ∀ k, k ≤ n → (2 : Nat) ^ k ≤ 2 ^ 14 := fun k hk => Nat.pow_le_pow_right (by omega) (by omega)
  unfold futP
  split
  · have h1 := mk_lt (fun b => bf P T i b) n
    have := h2 n (Nat.le_refl _)
    unfold futM
    omega
  · split
    · have h1 := mk_lt (fun b => bf P T A b) B
      have := h2 B hB
      omega
    · omega
theorem pastM_lt {n : Nat} {P T : Nat → Int} (hn : n ≤ 14) (i : Nat) : pastM n P T i < 16384 := by
  have h1 := mk_lt (fun a => bf P T a i) n
  have : (2 : Nat) ^ n ≤ 2 ^ 14 := Nat.pow_le_pow_right (by omega) hn
  unfold pastM
  omega
theorem futM_lt {n : Nat} {P T : Nat → Int} (hn : n ≤ 14) (i : Nat) : futM n P T i < 16384 := by
  have h1 := mk_lt (fun b => bf P T i b) n
  have : (2 : Nat) ^ n ≤ 2 ^ 14 := Nat.pow_le_pow_right (by omega) hn
  unfold futM
  omega

theorem cnt_small {s n m : Nat} (hs : s < 2 ^ n) (hm : n ≤ m) : cnt s.testBit m = cnt s.testBit n := by
  rw [← els_length, ← els_length, els_more (fun i hi => bit_ge hs hi) hm]
theorem srch_lt {n : Nat} (K : Nat → Nat) : ∀ (k i s best : Nat), i + k = n → s < 2 ^ n → best < 2 ^ n → srch n K k i s best < 2 ^ n := by
  intro k
  induction k with
  | zero => intro i s best _ hs hb; rw [srch]; split <;> assumption
  | succ k ih =>
    intro i s best hn hs hb
    rw [srch]
    split
    · exact hb
    · refine ih _ _ _ (by omega) hs ?_
      split
      · refine ih _ _ _ (by omega) (Nat.or_lt_two_pow hs ?_) hb
        exact Nat.pow_lt_pow_right (by omega) (by omega)
      · exact hb

end Go.Firn

namespace Go.Firn

/-- What the hits know of: those below A wholly, and A of the hits below B. -/
def knowP (n : Nat) (P T : Nat → Int) (A B a : Nat) : Nat := if a < A then knowM n P T a else if a = A then mk (fun i => decide (n - 1 - i < B) && cmpd P T a (n - 1 - i)) n else 0
theorem knowP_zero (n : Nat) (P T : Nat → Int) (a : Nat) : knowP n P T 0 0 a = 0 := by
  unfold knowP
  rw [if_neg (by omega)]
  split
  · refine Nat.eq_of_testBit_eq fun i => ?_
    rw [mk_bit]; simp
  · rfl
theorem knowP_next {n : Nat} {P T : Nat → Int} {A a : Nat} : knowP n P T A n a = knowP n P T (A + 1) 0 a := by
  have z : ∀ x, mk (fun i => decide (n - 1 - i < 0) && cmpd P T x (n - 1 - i)) n = 0 := fun x => by
    refine Nat.eq_of_testBit_eq fun i => ?_
    rw [mk_bit]; simp
  unfold knowP
  by_cases h : a < A
  · rw [if_pos h, if_pos (by omega)]
  · rw [if_neg h]
    by_cases e : a = A
    · subst e
      rw [if_pos rfl, if_pos (by omega)]
      unfold knowM
      refine Nat.eq_of_testBit_eq fun i => ?_
      rw [mk_bit, mk_bit]
      by_cases hi : i < n
      · have : n - 1 - i < n := by omega
        simp [hi, this]
      · simp [hi]
    · rw [if_neg e, if_neg (by omega), z]
      split <;> rfl
theorem knowP_yes {n : Nat} {P T : Nat → Int} {A B a : Nat} (hB : B < n) (h : cmpd P T A B = true) : (if a = A then knowP n P T A B A ||| 2 ^ (n - 1 - B) else knowP n P T A B a) = knowP n P T A (B + 1) a := by
  by_cases e : a = A
  · subst e
    rw [if_pos rfl]
    unfold knowP
    rw [if_neg (by omega), if_pos rfl, if_neg (by omega), if_pos rfl]
    refine Nat.eq_of_testBit_eq fun i => ?_
    rw [Nat.testBit_or, mk_bit, mk_bit, Nat.testBit_two_pow]
    by_cases hi : i < n
    · by_cases e2 : n - 1 - B = i
      · have e3 : n - 1 - i = B := by omega
        simp [hi, e2, e3, h]
      · have : (n - 1 - i < B) ↔ (n - 1 - i < B + 1) := by omega
        simp [hi, e2, this]
    · have : ¬ n - 1 - B = i := by omega
      simp [hi, this]
  · rw [if_neg e]
    unfold knowP
    simp only [if_neg e]
theorem knowP_no {n : Nat} {P T : Nat → Int} {A B a : Nat} (h : cmpd P T A B = false) : knowP n P T A B a = knowP n P T A (B + 1) a := by
  unfold knowP
  by_cases h1 : a < A
  · rw [if_pos h1, if_pos h1]
  · rw [if_neg h1, if_neg h1]
    by_cases e : a = A
    · subst e
      rw [if_pos rfl, if_pos rfl]
      refine Nat.eq_of_testBit_eq fun i => ?_
      rw [mk_bit, mk_bit]
      by_cases hi : i < n
      · by_cases e2 : n - 1 - i = B
        · simp [e2, h]
        · have : (n - 1 - i < B) ↔ (n - 1 - i < B + 1) := by omega
          simp [hi, this]
      · simp [hi]
    · rw [if_neg e, if_neg e]
theorem knowP_end {n : Nat} {P T : Nat → Int} {a : Nat} (h : a < n) : knowP n P T n 0 a = knowM n P T a := by
  unfold knowP
  rw [if_pos h]
theorem knowP_lt {n : Nat} {P T : Nat → Int} {A B a : Nat} : knowP n P T A B a < 2 ^ n := by
  unfold knowP
  split
  · exact mk_lt _ _
  · split
    · exact mk_lt _ _
    · exact Nat.two_pow_pos n

/-- The sets tried are free as far as the hits below k say. -/
def freesK (n : Nat) (L : Nat → Nat) (r k : Nat) : Bool := (List.range k).all fun a => !(r.testBit (n - 1 - a)) || L a &&& r == 0
theorem freesK_zero (n : Nat) (L : Nat → Nat) (r : Nat) : freesK n L r 0 = true := rfl
theorem freesK_succ (n : Nat) (L : Nat → Nat) (r k : Nat) : freesK n L r (k + 1) = (freesK n L r k && (!(r.testBit (n - 1 - k)) || L k &&& r == 0)) := by
  unfold freesK
  rw [List.range_succ, List.all_append]
  simp
theorem freesK_end (n : Nat) (L : Nat → Nat) (r : Nat) : freesK n L r n = frees n L r := rfl
theorem pick_eq (n : Nat) (L : Nat → Nat) (r best : Nat) : pick n L r best = if frees n L r = true ∧ cnt best.testBit n < cnt (fun a => r.testBit (n - 1 - a)) n then r else best := by
  unfold pick
  rw [cnt_rev]
theorem down_snoc (n : Nat) (L : Nat → Nat) (c r best : Nat) : down n L (c + 1) r best = pick n L (r - c) (down n L c r best) := by
  rw [down_add]
  rfl
theorem pick_zero (n : Nat) (L : Nat → Nat) (best : Nat) : pick n L 0 best = best := by
  unfold pick
  rw [if_neg]
  rintro ⟨_, h⟩
  have : cnt (0 : Nat).testBit n = 0 := by
    rw [← els_length, els_nil]; rfl
  omega
/-- What is best when the sets above s have been tried. -/
def downS (n : Nat) (L : Nat → Nat) (s : Nat) : Nat := down n L (2 ^ n - 1 - s) (2 ^ n - 1) 0
theorem downS_top (n : Nat) (L : Nat → Nat) : downS n L (2 ^ n - 1) = 0 := by
  unfold downS
  rw [Nat.sub_self]; rfl
theorem downS_next {n : Nat} {L : Nat → Nat} {s : Nat} (h0 : 0 < s) (h : s < 2 ^ n) : downS n L (s - 1) = pick n L s (downS n L s) := by
  unfold downS
  rw [show 2 ^ n - 1 - (s - 1) = (2 ^ n - 1 - s) + 1 by omega, down_snoc]
  congr 1; omega
theorem downS_end (n : Nat) (L : Nat → Nat) : downS n L 0 = down n L (2 ^ n) (2 ^ n - 1) 0 := by
  have := Nat.two_pow_pos n
  have e : down n L (2 ^ n - 1 + 1) (2 ^ n - 1) 0 = down n L (2 ^ n) (2 ^ n - 1) 0 := by congr 1; omega
  rw [← e, down_snoc, Nat.sub_self, pick_zero]
  rfl
theorem downS_lt {n : Nat} {L : Nat → Nat} : ∀ {d s : Nat}, s + d = 2 ^ n - 1 → downS n L s < 2 ^ n := by
  intro d
  induction d with
  | zero => intro s hs; have : s = 2 ^ n - 1 := by omega
            rw [this, downS_top]; exact Nat.two_pow_pos n
  | succ d ih =>
    intro s hs
    have h1 := ih (s := s + 1) (by omega)
    have h2 := downS_next (n := n) (L := L) (s := s + 1) (by omega) (by have := Nat.two_pow_pos n; omega)
    rw [Nat.add_sub_cancel] at h2
    rw [h2]
    unfold pick
    split
    · have := Nat.two_pow_pos n; omega
    · exact h1

end Go.Firn

namespace Go.Firn

/-- A number is the index of a hit. -/
def inH (n : Nat) (x : Int) : Bool := decide (0 ≤ x) && decide (x ≤ (n : Int) - 1)
theorem inH_nat {n : Nat} {x : Int} (h : inH n x = true) : ∃ i : Nat, i < n ∧ x = i := by
  unfold inH at h
  simp only [Bool.and_eq_true, decide_eq_true_eq] at h
  exact ⟨x.toNat, by omega, by omega⟩
/-- The number at k fits a layer's numbers in front of it. -/
def layAt (n : Nat) (P T : Nat → Int) (l : Nat → Int) (k : Nat) : Bool :=
  inH n (l k) && !(decide (0 < k) && decide (l k ≤ l (k - 1))) && (List.range k).all fun j => !cmpd P T (l k).toNat (l j).toNat
def layK (n : Nat) (P T : Nat → Int) (l : Nat → Int) (k : Nat) : Bool := (List.range k).all (layAt n P T l)
/-- The list is a layer. -/
def layB (n : Nat) (P T : Nat → Int) (m : Nat) (l : Nat → Int) : Bool := layK n P T l m && decide (1 ≤ m) && decide (m ≤ 50)

theorem layK_zero (n : Nat) (P T : Nat → Int) (l : Nat → Int) : layK n P T l 0 = true := rfl
theorem layK_succ (n : Nat) (P T : Nat → Int) (l : Nat → Int) (k : Nat) : layK n P T l (k + 1) = (layK n P T l k && layAt n P T l k) := by
  unfold layK
  rw [List.range_succ, List.all_append]
  simp
theorem layK_at {n : Nat} {P T : Nat → Int} {l : Nat → Int} {k j : Nat} (h : layK n P T l k = true) (hj : j < k) : ∃ i : Nat, i < n ∧ l j = i := by
  unfold layK at h
  rw [List.all_eq_true] at h
  have := h j (by simpa using hj)
  unfold layAt at this
  simp only [Bool.and_eq_true] at this
  exact inH_nat this.1.1
theorem layB_stop {n : Nat} {P T : Nat → Int} {l : Nat → Int} {k m : Nat} (hk : k < m) (h : layAt n P T l k = false) : layB n P T m l = false := by
  have : layK n P T l m = false := by
    unfold layK
    rw [List.all_eq_false]
    exact ⟨k, by simpa using hk, by rw [h]; simp⟩
  unfold layB
  rw [this]; rfl
/-- The hits in front of k, of the first j, do not know of it. -/
def layJ (P T : Nat → Int) (l : Nat → Int) (k j : Nat) : Bool := (List.range j).all fun i => !cmpd P T (l k).toNat (l i).toNat
theorem layJ_zero (P T : Nat → Int) (l : Nat → Int) (k : Nat) : layJ P T l k 0 = true := rfl
theorem layJ_succ (P T : Nat → Int) (l : Nat → Int) (k j : Nat) : layJ P T l k (j + 1) = (layJ P T l k j && !cmpd P T (l k).toNat (l j).toNat) := by
  unfold layJ
  rw [List.range_succ, List.all_append]
  simp
theorem layAt_eq (n : Nat) (P T : Nat → Int) (l : Nat → Int) (k : Nat) : layAt n P T l k = (inH n (l k) && !(decide (0 < k) && decide (l k ≤ l (k - 1))) && layJ P T l k k) := rfl
theorem layAt_know {n : Nat} {P T : Nat → Int} {l : Nat → Int} {k j : Nat} (hj : j < k) (h : cmpd P T (l k).toNat (l j).toNat = true) : layAt n P T l k = false := by
  rw [layAt_eq]
  have : layJ P T l k k = false := by
    unfold layJ
    rw [List.all_eq_false]
    exact ⟨j, by simpa using hj, by rw [h]; simp⟩
  rw [this]
  simp
theorem know_bit {n : Nat} {P T : Nat → Int} {i j : Nat} (hj : j < n) : (pastM n P T i ||| futM n P T i).testBit j = cmpd P T i j := by
  unfold pastM futM cmpd
  rw [Nat.testBit_or, mk_bit, mk_bit]
  simp [hj, Bool.or_comm]
theorem past_bit {n : Nat} {P T : Nat → Int} {i j : Nat} (hj : j < n) : (pastM n P T i).testBit j = bf P T j i := by
  unfold pastM
  rw [mk_bit]
  simp [hj]

end Go.Firn

namespace Go.Firn

/-- What is before a hit, as a list. -/
def pastL (n : Nat) (P T : Nat → Int) (a : Nat) : List Nat := els (fun i => bf P T i a) n
theorem pastL_eq {n : Nat} (hn : n ≤ 14) (P T : Nat → Int) (a : Nat) : els (pastM n P T a).testBit 16 = pastL n P T a := by
  have h : pastM n P T a < 2 ^ n := mk_lt _ _
  rw [els_more (n := n) (m := 16) (fun i hi => bit_ge h hi) (by omega)]
  exact els_congr fun i hi => past_bit hi

/-- Of the hits that are left this one has none before it. -/
def frB (n : Nat) (P T : Nat → Int) (left : Nat → Bool) (a : Nat) : Bool := left a && (List.range n).all fun b => !(left b && bf P T b a)
def frJ (P T : Nat → Int) (left : Nat → Bool) (a k : Nat) : Bool := left a && (List.range k).all fun b => !(left b && bf P T b a)
theorem frJ_zero (P T : Nat → Int) (left : Nat → Bool) (a : Nat) : frJ P T left a 0 = left a := by simp [frJ]
theorem frJ_succ (P T : Nat → Int) (left : Nat → Bool) (a k : Nat) : frJ P T left a (k + 1) = (frJ P T left a k && !(left k && bf P T k a)) := by
  unfold frJ
  rw [List.range_succ, List.all_append]
  simp [Bool.and_assoc]
theorem frJ_end (n : Nat) (P T : Nat → Int) (left : Nat → Bool) (a : Nat) : frJ P T left a n = frB n P T left a := rfl
def firstL (n : Nat) (P T : Nat → Int) (left : Nat → Bool) : List Nat := els (frB n P T left) n
theorem frB_congr {n : Nat} {P T : Nat → Int} {l l' : Nat → Bool} (h : ∀ i, i < n → l i = l' i) {a : Nat} (ha : a < n) : frB n P T l a = frB n P T l' a := by
  unfold frB
  rw [h a ha]
  congr 1
  rw [Bool.eq_iff_iff, List.all_eq_true, List.all_eq_true]
  constructor
  · intro h1 b hb
    rw [← h b (by simpa using hb)]; exact h1 b hb
  · intro h1 b hb
    rw [h b (by simpa using hb)]; exact h1 b hb
theorem firstL_congr {n : Nat} {P T : Nat → Int} {l l' : Nat → Bool} (h : ∀ i, i < n → l i = l' i) : firstL n P T l = firstL n P T l' := els_congr fun _ hi => frB_congr h hi

/-- None of s is before i. -/
def freeAt (n : Nat) (P T : Nat → Int) (s i : Nat) : Bool := pastM n P T i &&& s == 0
theorem freeAt_eq {n : Nat} {P T : Nat → Int} {s i : Nat} : (s.testBit i && freeAt n P T s i) = frB n P T s.testBit i := by
  unfold freeAt frB
  congr 1
  rw [Bool.eq_iff_iff, beq_iff_eq, List.all_eq_true]
  constructor
  · intro h b hb
    have hb : b < n := by simpa using hb
    have : (pastM n P T i &&& s).testBit b = false := by rw [h]; simp
    rw [Nat.testBit_and, past_bit hb] at this
    rw [Bool.and_comm, this]; rfl
  · intro h
    refine Nat.eq_of_testBit_eq fun b => ?_
    rw [Nat.testBit_and, Nat.zero_testBit]
    by_cases hb : b < n
    · have := h b (by simpa using hb)
      rw [past_bit hb, Bool.and_comm]
      cases h1 : s.testBit b <;> cases h2 : bf P T b i <;> simp_all
    · rw [bit_ge (s := pastM n P T i) (mk_lt _ _) (by omega)]; rfl
/-- The hits of s before which there is none of it, as bits. -/
def freeM (n : Nat) (P T : Nat → Int) (s : Nat) : Nat := mk (frB n P T s.testBit) n
theorem freeM_lt (n : Nat) (P T : Nat → Int) (s : Nat) : freeM n P T s < 2 ^ n := mk_lt _ _
theorem freeM_list {n : Nat} (hn : n ≤ 14) (P T : Nat → Int) (s : Nat) : els (freeM n P T s).testBit 16 = firstL n P T s.testBit := by
  rw [els_more (n := n) (m := 16) (fun i hi => bit_ge (freeM_lt n P T s) hi) (by omega)]
  exact els_congr fun i hi => by
    unfold freeM
    rw [mk_bit]; simp [hi]
/-- What the loop over the members has found. -/
def FreeK (n : Nat) (P T : Nat → Int) (s : Nat) (L : List Nat) (k out : Nat) : Prop := ∀ i, out.testBit i = ((L.take k).contains i && freeAt n P T s i)
theorem FreeK.zero (n : Nat) (P T : Nat → Int) (s : Nat) (L : List Nat) : FreeK n P T s L 0 0 := fun i => by simp
theorem take_succ_contains {L : List Nat} {k : Nat} (hk : k < L.length) (i : Nat) : (L.take (k + 1)).contains i = ((L.take k).contains i || i == L.getD k 0) := by
  have e : L.take (k + 1) = L.take k ++ [L.getD k 0] := by
    rw [List.take_add_one, List.getElem?_eq_getElem hk, List.getD, List.getElem?_eq_getElem hk]
    rfl
  rw [e, List.contains_append, Bool.eq_iff_iff]
  simp
theorem FreeK.yes {n : Nat} {P T : Nat → Int} {s : Nat} {L : List Nat} {k out : Nat} (h : FreeK n P T s L k out) (hk : k < L.length) (hf : freeAt n P T s (L.getD k 0) = true) : FreeK n P T s L (k + 1) (out ||| 2 ^ L.getD k 0) := fun i => by
  rw [Nat.testBit_or, h i, take_succ_contains hk, Nat.testBit_two_pow]
  by_cases e : L.getD k 0 = i
  · subst e; rw [hf]; simp
  · have e1 : (i == L.getD k 0) = false := by simp only [beq_eq_false_iff_ne]; exact fun x => e x.symm
    have e2 : decide (L.getD k 0 = i) = false := decide_eq_false e
    rw [e1, e2]; simp
theorem FreeK.no {n : Nat} {P T : Nat → Int} {s : Nat} {L : List Nat} {k out : Nat} (h : FreeK n P T s L k out) (hk : k < L.length) (hf : freeAt n P T s (L.getD k 0) = false) : FreeK n P T s L (k + 1) out := fun i => by
  rw [h i, take_succ_contains hk]
  by_cases e : L.getD k 0 = i
  · subst e; rw [hf]; simp
  · have e1 : (i == L.getD k 0) = false := by simp only [beq_eq_false_iff_ne]; exact fun x => e x.symm
    rw [e1]; simp
theorem FreeK.fin {n : Nat} {P T : Nat → Int} {s out : Nat} (hs : s < 2 ^ n) (hn : n ≤ 16) (h : FreeK n P T s (els s.testBit 16) (els s.testBit 16).length out) : out = freeM n P T s := by
  refine Nat.eq_of_testBit_eq fun i => ?_
  rw [h i, List.take_length, freeM, mk_bit, ← freeAt_eq]
  have : (els s.testBit 16).contains i = (decide (i < n) && s.testBit i) := by
    rw [Bool.eq_iff_iff]
    simp only [List.contains_iff_mem, els_mem, Bool.and_eq_true, decide_eq_true_eq]
    constructor
    · rintro ⟨h1, h2⟩
      refine ⟨?_, h2⟩
      rcases Nat.lt_or_ge i n with h | h
      · exact h
      · rw [bit_ge hs h] at h2; cases h2
    · rintro ⟨h1, h2⟩; exact ⟨by omega, h2⟩
  rw [this, Bool.and_assoc]

/-- What Before, Past and First give. -/
def befG (n : Nat) (P T : Nat → Int) (x y : Int) : Bool := vH n P T && inH n x && inH n y && bf P T x.toNat y.toNat
def errB (n : Nat) (P T : Nat → Int) (x y : Int) : Int := if vH n P T = true then (if inH n x = true then (if inH n y = true then 0 else 2) else 2) else 20
def pasG (n : Nat) (P T : Nat → Int) (x : Int) : List Nat := if vH n P T = true then (if inH n x = true then pastL n P T x.toNat else []) else []
def errP (n : Nat) (P T : Nat → Int) (x : Int) : Int := if vH n P T = true then (if inH n x = true then 0 else 2) else 20
def firG (n : Nat) (P T : Nat → Int) : List Nat := if vH n P T = true then firstL n P T (fun _ => true) else []

end Go.Firn

namespace Go.Firn

def inR (x : Int) : Bool := decide (-1000 ≤ x) && decide (x ≤ 1000)
theorem inR_iff {x : Int} : inR x = true ↔ -1000 ≤ x ∧ x ≤ 1000 := by unfold inR; simp
/-- All hits stay in reach. -/
def okMK (P T : Nat → Int) (p t : Int) (k : Nat) : Bool := (List.range k).all fun i => inR (P i + p) && inR (T i + t)
theorem okMK_zero (P T : Nat → Int) (p t : Int) : okMK P T p t 0 = true := rfl
theorem okMK_succ (P T : Nat → Int) (p t : Int) (k : Nat) : okMK P T p t (k + 1) = (okMK P T p t k && (inR (P k + p) && inR (T k + t))) := by
  unfold okMK
  rw [List.range_succ, List.all_append]
  simp
theorem okMK_stop {P T : Nat → Int} {p t : Int} {k n : Nat} (hk : k < n) (h : (inR (P k + p) && inR (T k + t)) = false) : okMK P T p t n = false := by
  unfold okMK
  rw [List.all_eq_false]
  exact ⟨k, by simpa using hk, by rw [h]; simp⟩
theorem okMK_at {P T : Nat → Int} {p t : Int} {k n : Nat} (h : okMK P T p t n = true) (hk : k < n) : (-1000 ≤ P k + p ∧ P k + p ≤ 1000) ∧ -1000 ≤ T k + t ∧ T k + t ≤ 1000 := by
  unfold okMK at h
  rw [List.all_eq_true] at h
  have := h k (by simpa using hk)
  rw [Bool.and_eq_true, inR_iff, inR_iff] at this
  exact this
/-- Moved valid hits are valid just if all stay in reach. -/
theorem vH_moved {n : Nat} {P T : Nat → Int} (V : VH n P T) (p t : Int) : vH n (fun i => P i + p) (fun i => T i + t) = okMK P T p t n := by
  rw [Bool.eq_iff_iff, vH_iff]
  constructor
  · intro h
    unfold okMK
    rw [List.all_eq_true]
    intro i hi
    have := h.ok i (by simpa using hi)
    rw [Bool.and_eq_true, inR_iff, inR_iff]
    omega
  · intro h
    refine ⟨V.pos, V.few, fun i hi => by have := okMK_at h hi; omega, fun i k hi hk hp ht => V.apart i k hi hk (by omega) (by omega)⟩
theorem okMK_far {n : Nat} {P T : Nat → Int} (V : VH n P T) {p t : Int} (h : (decide (-2000 ≤ p) && decide (p ≤ 2000)) = false ∨ (decide (-2000 ≤ t) && decide (t ≤ 2000)) = false) : okMK P T p t n = false := by
  cases hk : okMK P T p t n
  · rfl
  · have h1 := okMK_at hk (k := 0) V.pos
    have h2 := V.ok 0 V.pos
    rcases h with h | h <;> simp at h <;> omega
/-- Turned valid hits are valid. -/
theorem vH_turned {n : Nat} {P T : Nat → Int} (V : VH n P T) : VH n P (fun i => -T i) :=
  ⟨V.pos, V.few, fun i hi => by have := V.ok i hi; omega, fun i k hi hk hp ht => V.apart i k hi hk hp (by omega)⟩

/-- What Moved gives: how many hits, and the error. -/
def mvN (n : Nat) (P T : Nat → Int) (p t : Int) : Nat := if vH n P T = true then (if okMK P T p t n = true then n else 0) else 0
def errM (n : Nat) (P T : Nat → Int) (p t : Int) : Int := if vH n P T = true then (if okMK P T p t n = true then 0 else 2) else 20
def tuN (n : Nat) (P T : Nat → Int) : Nat := if vH n P T = true then n else 0

end Go.Firn

namespace Go.Firn

/-- What is left behind k layers. -/
def leftK (n : Nat) (P T : Nat → Int) : Nat → Nat → Bool
  | 0, i => decide (i < n)
  | k + 1, i => leftK n P T k i && !frB n P T (leftK n P T k) i
/-- The layer k, and the first m layers. -/
def layK1 (n : Nat) (P T : Nat → Int) (k : Nat) : List Nat := firstL n P T (leftK n P T k)
def layT (n : Nat) (P T : Nat → Int) (m : Nat) : List (List Nat) := (List.range m).map (layK1 n P T)
theorem layT_succ (n : Nat) (P T : Nat → Int) (m : Nat) : layT n P T (m + 1) = layT n P T m ++ [layK1 n P T m] := by
  unfold layT
  rw [List.range_succ, List.map_append]; rfl
theorem layT_length (n : Nat) (P T : Nat → Int) (m : Nat) : (layT n P T m).length = m := by simp [layT]

theorem leftK_lt {n : Nat} {P T : Nat → Int} : ∀ {k i : Nat}, leftK n P T k i = true → i < n := by
  intro k
  induction k with
  | zero => intro i h; simpa [leftK] using h
  | succ k ih =>
    intro i h
    rw [leftK, Bool.and_eq_true] at h
    exact ih h.1

/-- How many are left, and how many a layer has. -/
theorem cnt_split2 (n : Nat) (p q : Nat → Bool) (h : ∀ i, i < n → q i = true → p i = true) : cnt p n = cnt q n + cnt (fun i => p i && !q i) n := by
  induction n with
  | zero => rfl
  | succ n ih =>
    rw [cnt, cnt, cnt, ih fun i hi => h i (by omega)]
    have := h n (by omega)
    cases hp : p n <;> cases hq : q n <;> simp_all <;> omega
theorem left_cnt (n : Nat) (P T : Nat → Int) (k : Nat) : cnt (leftK n P T k) n = (layK1 n P T k).length + cnt (leftK n P T (k + 1)) n := by
  unfold layK1 firstL
  rw [els_length, cnt_split2 n (leftK n P T k) (frB n P T (leftK n P T k))]
  · rfl
  · intro i _ h
    unfold frB at h
    rw [Bool.and_eq_true] at h
    exact h.1

theorem cnt_pos {p : Nat → Bool} {n i : Nat} (hi : i < n) (hp : p i = true) : 0 < cnt p n := by
  have : i ∈ els p n := els_mem.2 ⟨hi, hp⟩
  have := List.length_pos_of_mem this
  rw [els_length] at this
  exact this
theorem cnt_zero {p : Nat → Bool} {n : Nat} (h : cnt p n = 0) : ∀ i, i < n → p i = false := fun i hi => by
  cases hp : p i
  · rfl
  · have := cnt_pos hi hp; omega
theorem cnt_ex {p : Nat → Bool} {n : Nat} (h : cnt p n ≠ 0) : ∃ i, i < n ∧ p i = true := by
  by_cases hx : ∃ i, i < n ∧ p i = true
  · exact hx
  · have : cnt p n = cnt (fun _ => false) n := cnt_congr fun i hi => by
      cases hp : p i
      · rfl
      · exact absurd ⟨i, hi, hp⟩ hx
    have z : ∀ m, cnt (fun _ => false) m = 0 := fun m => by induction m with
      | zero => rfl
      | succ m ih => rw [cnt, ih]; rfl
    rw [z] at this
    exact absurd this h
/-- The earliest of some hits. -/
theorem earliest (T : Nat → Int) (p : Nat → Bool) : ∀ (n : Nat), (∃ i, i < n ∧ p i = true) → ∃ i, i < n ∧ p i = true ∧ ∀ j, j < n → p j = true → T i ≤ T j := by
  intro n
  induction n with
  | zero => rintro ⟨i, hi, _⟩; omega
  | succ n ih =>
    rintro ⟨i, hi, hp⟩
    by_cases hx : ∃ i, i < n ∧ p i = true
    · obtain ⟨m, hm, hpm, hle⟩ := ih hx
      by_cases hn : p n = true ∧ T n < T m
      · refine ⟨n, by omega, hn.1, fun j hj hpj => ?_⟩
        by_cases e : j = n
        · subst e; omega
        · have := hle j (by omega) hpj; omega
      · refine ⟨m, by omega, hpm, fun j hj hpj => ?_⟩
        by_cases e : j = n
        · subst e
          rcases Int.lt_or_le (T j) (T m) with h | h
          · exact absurd ⟨hpj, h⟩ hn
          · exact h
        · exact hle j (by omega) hpj
    · have e : i = n := by
        rcases Nat.lt_or_ge i n with h | h
        · exact absurd ⟨i, h, hp⟩ hx
        · omega
      subst e
      refine ⟨i, by omega, hp, fun j hj hpj => ?_⟩
      by_cases e : j = i
      · subst e; omega
      · exact absurd ⟨j, by omega, hpj⟩ hx
/-- As long as hits are left, a layer has one. -/
theorem lay_pos {n : Nat} {P T : Nat → Int} {k : Nat} (h : cnt (leftK n P T k) n ≠ 0) : 0 < (layK1 n P T k).length := by
  obtain ⟨i, hi, hp, hle⟩ := earliest T (leftK n P T k) n (cnt_ex h)
  unfold layK1 firstL
  rw [els_length]
  refine cnt_pos hi ?_
  unfold frB
  rw [hp, Bool.true_and, List.all_eq_true]
  intro j hj
  have hj : j < n := by simpa using hj
  cases hl : leftK n P T k j
  · rfl
  · cases hb : bf P T j i
    · rfl
    · have h1 := bf_time hb
      have h2 := hle j hj hl
      omega

/-- Behind m layers nothing is left, and ahead of that something was. -/
def LastL (n : Nat) (P T : Nat → Int) (m : Nat) : Prop := cnt (leftK n P T m) n = 0 ∧ ∀ k, k < m → cnt (leftK n P T k) n ≠ 0
theorem LastL.uniq {n : Nat} {P T : Nat → Int} {m m' : Nat} (h : LastL n P T m) (h' : LastL n P T m') : m = m' := by
  rcases Nat.lt_trichotomy m m' with x | x | x
  · exact absurd h.1 (h'.2 m x)
  · exact x
  · exact absurd h'.1 (h.2 m' x)
theorem left_le {n : Nat} {P T : Nat → Int} : ∀ {k : Nat}, (∀ j, j < k → cnt (leftK n P T j) n ≠ 0) → k + cnt (leftK n P T k) n ≤ n := by
  intro k
  induction k with
  | zero => intro _; have := cnt_le (leftK n P T 0) n; omega
  | succ k ih =>
    intro h
    have h1 := ih fun j hj => h j (by omega)
    have h2 := left_cnt n P T k
    have h3 := lay_pos (h k (by omega))
    omega
/-- What is left, as bits. -/
def leftM (n : Nat) (P T : Nat → Int) (k : Nat) : Nat := mk (leftK n P T k) n
theorem leftM_lt (n : Nat) (P T : Nat → Int) (k : Nat) : leftM n P T k < 2 ^ n := mk_lt _ _
theorem leftM_bit {n : Nat} {P T : Nat → Int} {k i : Nat} : (leftM n P T k).testBit i = leftK n P T k i := by
  unfold leftM
  rw [mk_bit]
  cases h : leftK n P T k i
  · simp
  · simp [leftK_lt h]
theorem leftM_zero_iff {n : Nat} {P T : Nat → Int} {k : Nat} : leftM n P T k = 0 ↔ cnt (leftK n P T k) n = 0 := by
  constructor
  · intro h
    by_cases hc : cnt (leftK n P T k) n = 0
    · exact hc
    · obtain ⟨i, hi, hp⟩ := cnt_ex hc
      rw [← leftM_bit, h] at hp
      simp at hp
  · intro h
    refine Nat.eq_of_testBit_eq fun i => ?_
    rw [leftM_bit, Nat.zero_testBit]
    rcases Nat.lt_or_ge i n with hi | hi
    · exact cnt_zero h i hi
    · cases hp : leftK n P T k i
      · rfl
      · have := leftK_lt hp; omega
theorem leftM_top (n : Nat) (P T : Nat → Int) : leftM n P T 0 = 2 ^ n - 1 := by
  refine Nat.eq_of_testBit_eq fun i => ?_
  rw [leftM_bit, Nat.testBit_two_pow_sub_one]; rfl
theorem fun_bit {n : Nat} {P T : Nat → Int} {k : Nat} : (leftM n P T k).testBit = leftK n P T k := funext fun _ => leftM_bit
theorem leftM_next {n : Nat} {P T : Nat → Int} {k : Nat} (hn : n ≤ 14) : leftM n P T k &&& (65535 - freeM n P T (leftM n P T k)) = leftM n P T (k + 1) := by
  refine Nat.eq_of_testBit_eq fun i => ?_
  have hf := freeM_lt n P T (leftM n P T k)
  have h14 : (2 : Nat) ^ n ≤ 2 ^ 14 := Nat.pow_le_pow_right (by omega) hn
  have hs : freeM n P T (leftM n P T k) < 2 ^ 16 := by omega
  rw [Nat.testBit_and, leftM_bit, leftM_bit, leftK, show 65535 - freeM n P T (leftM n P T k) = 2 ^ 16 - (freeM n P T (leftM n P T k) + 1) by omega, Nat.testBit_two_pow_sub_succ hs]
  cases h : leftK n P T k i
  · simp
  · have hi := leftK_lt h
    unfold freeM
    rw [mk_bit, fun_bit]
    have : i < 16 := by omega
    simp [hi, this]
theorem layK1_free {n : Nat} {P T : Nat → Int} {k : Nat} (hn : n ≤ 14) : els (freeM n P T (leftM n P T k)).testBit 16 = layK1 n P T k := by
  rw [freeM_list hn, fun_bit]; rfl

end Go.Firn
