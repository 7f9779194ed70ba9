/- Sets of small numbers as bits, how many they hold, and the first one of the most that holds no two that know of each other: by hit, and by counting down. -/
namespace Go.Firn

/-- The set of the i < n with p i, as bits. -/
def mk (p : Nat → Bool) : Nat → Nat
  | 0 => 0
  | n + 1 => mk p n ||| (if p n then 2 ^ n else 0)

theorem mk_bit (p : Nat → Bool) (n i : Nat) : (mk p n).testBit i = (decide (i < n) && p i) := by
  induction n with
  | zero => simp [mk]
  | succ n ih =>
    rw [mk, Nat.testBit_or, ih]
    by_cases h : p n = true
    · rw [if_pos h, Nat.testBit_two_pow]
      by_cases hi : n = i
      · subst hi; simp [h]
      · have : (decide (i < n)) = decide (i < n + 1) := by congr 1; apply propext; omega
        simp [hi, this]
    · rw [if_neg h, Nat.zero_testBit]
      by_cases hi : n = i
      · subst hi; simp [h]
      · have : (decide (i < n)) = decide (i < n + 1) := by congr 1; apply propext; omega
        simp [this]

theorem lt_of_bits {s n : Nat} (h : ∀ i, n ≤ i → s.testBit i = false) : s < 2 ^ n := Nat.lt_pow_two_of_testBit s h
theorem bit_ge {s n i : Nat} (h : s < 2 ^ n) (hi : n ≤ i) : s.testBit i = false := Nat.testBit_lt_two_pow (Nat.lt_of_lt_of_le h (Nat.pow_le_pow_right (by omega) hi))
theorem mk_lt (p : Nat → Bool) (n : Nat) : mk p n < 2 ^ n := lt_of_bits fun i hi => by rw [mk_bit]; simp; omega

/-- How many i < n have p i. -/
def cnt (p : Nat → Bool) : Nat → Nat
  | 0 => 0
  | n + 1 => cnt p n + (if p n then 1 else 0)
theorem cnt_le (p : Nat → Bool) (n : Nat) : cnt p n ≤ n := by
  induction n with
  | zero => simp [cnt]
  | succ n ih => rw [cnt]; split <;> omega
theorem cnt_congr {p q : Nat → Bool} {n : Nat} (h : ∀ i, i < n → p i = q i) : cnt p n = cnt q n := by
  induction n with
  | zero => rfl
  | succ n ih => rw [cnt, cnt, ih fun i hi => h i (by omega), h n (by omega)]
theorem cnt_add (p : Nat → Bool) (a b : Nat) : cnt p (a + b) = cnt p a + cnt (fun i => p (a + i)) b := by
  induction b with
  | zero => rfl
  | succ b ih => rw [← Nat.add_assoc, cnt, ih, cnt, Nat.add_assoc]
theorem cnt_rev (p : Nat → Bool) (n : Nat) : cnt (fun i => p (n - 1 - i)) n = cnt p n := by
  induction n generalizing p with
  | zero => rfl
  | succ n ih =>
    rw [cnt]
    rw [show n + 1 = 1 + n by omega, cnt_add p 1 n]
    have e : cnt (fun i => p (1 + n - 1 - i)) n = cnt (fun i => p (1 + i)) n := by
      rw [← ih (fun i => p (1 + i))]
      refine cnt_congr fun i hi => ?_
      congr 1; omega
    rw [e]
    simp [cnt]
    omega

/-- The set s of n numbers holds no two that know of each other. -/
def Free (n : Nat) (C : Nat → Nat → Bool) (p : Nat → Bool) : Prop := ∀ i, i < n → p i = true → ∀ j, j < n → p j = true → C i j = false

/-- A set by bits from below, and by bits from above. -/
def Rev (n s r : Nat) : Prop := s < 2 ^ n ∧ r < 2 ^ n ∧ ∀ i, i < n → s.testBit i = r.testBit (n - 1 - i)

theorem Rev.zero (n : Nat) : Rev n 0 0 := ⟨Nat.two_pow_pos n, Nat.two_pow_pos n, fun i _ => by simp⟩
theorem Rev.cnt {n s r : Nat} (h : Rev n s r) : cnt s.testBit n = cnt r.testBit n := by
  rw [← cnt_rev r.testBit]
  exact cnt_congr fun i hi => h.2.2 i hi

/-- Hit by hit, with it or without it: what is best. -/
def srch (n : Nat) (K : Nat → Nat) : Nat → Nat → Nat → Nat → Nat
  | 0, _, s, best => if cnt best.testBit n < cnt s.testBit n then s else best
  | k + 1, i, s, best =>
    if cnt s.testBit n + (k + 1) ≤ cnt best.testBit n then best
    else srch n K k (i + 1) s (if K i &&& s = 0 then srch n K k (i + 1) (s ||| 2 ^ i) best else best)

/-- Whether a set told from above is free. -/
def frees (n : Nat) (L : Nat → Nat) (r : Nat) : Bool := (List.range n).all fun a => !(r.testBit (n - 1 - a)) || L a &&& r == 0
/-- One set is tried. -/
def pick (n : Nat) (L : Nat → Nat) (r best : Nat) : Nat := if frees n L r = true ∧ cnt best.testBit n < cnt r.testBit n then r else best
/-- The sets from r on downwards, c of them. -/
def down (n : Nat) (L : Nat → Nat) : Nat → Nat → Nat → Nat
  | 0, _, best => best
  | c + 1, r, best => down n L c (r - 1) (pick n L r best)

theorem down_add (n : Nat) (L : Nat → Nat) (a b r best : Nat) : down n L (a + b) r best = down n L b (r - a) (down n L a r best) := by
  induction a generalizing r best with
  | zero => simp [down]
  | succ a ih =>
    rw [show a + 1 + b = (a + b) + 1 by omega, down, ih, down]
    congr 1; omega

/-- Nothing turns where no set has more. -/
theorem down_same {n : Nat} {L : Nat → Nat} {c r best : Nat} (h : ∀ t, t < c → frees n L (r - t) = true → ¬ cnt best.testBit n < cnt (r - t).testBit n) : down n L c r best = best := by
  induction c generalizing r with
  | zero => rfl
  | succ c ih =>
    have h0 : pick n L r best = best := by
      unfold pick
      rw [if_neg]
      rintro ⟨h1, h2⟩
      exact h 0 (by omega) (by simpa using h1) (by simpa using h2)
    rw [down, h0]
    refine ih fun t ht h1 => ?_
    have := h (t + 1) (by omega)
    rw [show r - (t + 1) = r - 1 - t by omega] at this
    exact this h1

/-- The bits of P * 2 ^ k + t. -/
theorem bits_high {P k t : Nat} (ht : t < 2 ^ k) (j : Nat) : (P * 2 ^ k + t).testBit (k + j) = P.testBit j := by
  rw [Nat.mul_comm, Nat.testBit_two_pow_mul_add _ ht, if_neg (by omega)]
  congr 1; omega
theorem bits_low {P k t : Nat} (ht : t < 2 ^ k) {j : Nat} (hj : j < k) : (P * 2 ^ k + t).testBit j = t.testBit j := by
  rw [Nat.mul_comm, Nat.testBit_two_pow_mul_add _ ht]
  simp [hj]

/-- What the two roads know. -/
structure Known (n : Nat) (C : Nat → Nat → Bool) (K L : Nat → Nat) : Prop where
  symm : ∀ i j, C i j = C j i
  self : ∀ i, C i i = false
  low : ∀ i, i < n → ∀ j, (K i).testBit j = (decide (j < n) && C i j)
  high : ∀ i, i < n → ∀ j, j < n → (L i).testBit (n - 1 - j) = C i j
  top : ∀ i, i < n → L i < 2 ^ n

theorem Known.meet {n : Nat} {C : Nat → Nat → Bool} {K L : Nat → Nat} (h : Known n C K L) {i s : Nat} (hi : i < n) : K i &&& s = 0 ↔ ∀ j, j < n → s.testBit j = true → C i j = false := by
  constructor
  · intro h0 j hj hs
    have : (K i &&& s).testBit j = false := by rw [h0]; simp
    rw [Nat.testBit_and, hs, h.low i hi] at this
    simpa [hj] using this
  · intro h0
    refine Nat.eq_of_testBit_eq fun j => ?_
    rw [Nat.testBit_and, h.low i hi, Nat.zero_testBit]
    by_cases hj : j < n
    · cases hs : s.testBit j
      · simp
      · simp [h0 j hj hs]
    · simp [hj]

theorem Known.free {n : Nat} {C : Nat → Nat → Bool} {K L : Nat → Nat} (h : Known n C K L) {r : Nat} : frees n L r = true ↔ Free n C (fun a => r.testBit (n - 1 - a)) := by
  unfold frees Free
  rw [List.all_eq_true]
  constructor
  · intro h0 i hi hp j hj hq
    have := h0 i (by simpa using hi)
    simp only [hp, Bool.not_true, Bool.false_or, beq_iff_eq] at this
    have e : (L i &&& r).testBit (n - 1 - j) = false := by rw [this]; simp
    have hq : r.testBit (n - 1 - j) = true := hq
    rw [Nat.testBit_and, hq, h.high i hi j hj] at e
    simpa using e
  · intro h0 a ha
    have ha : a < n := by simpa using ha
    cases hp : r.testBit (n - 1 - a)
    · simp
    · simp only [Bool.not_true, Bool.false_or, beq_iff_eq]
      refine Nat.eq_of_testBit_eq fun j => ?_
      rw [Nat.testBit_and, Nat.zero_testBit]
      by_cases hj : j < n
      · have e : j = n - 1 - (n - 1 - j) := by omega
        rw [e, h.high a ha _ (by omega), ← e]
        cases hs : r.testBit j
        · simp
        · have := h0 a ha hp (n - 1 - j) (by omega) (by show r.testBit (n - 1 - (n - 1 - j)) = true; rw [← e]; exact hs)
          simp [this]
      · rw [bit_ge (h.top a ha) (by omega)]
        simp

theorem srch_down {n : Nat} {C : Nat → Nat → Bool} {K L : Nat → Nat} (h : Known n C K L) (k : Nat) : ∀ (i s P best rb : Nat), i + k = n → s < 2 ^ i → P < 2 ^ i →
    (∀ a, a < i → s.testBit a = P.testBit (i - 1 - a)) → Free n C s.testBit → Rev n best rb →
    Rev n (srch n K k i s best) (down n L (2 ^ k) (P * 2 ^ k + 2 ^ k - 1) rb) := by
  induction k with
  | zero =>
    intro i s P best rb hn hs hP hsP hf hb
    have e : i = n := by omega
    subst e
    have hr : Rev i s P := ⟨hs, hP, hsP⟩
    have hfr : frees i L P = true := by
      rw [h.free]
      intro a ha hp b hb hq
      have hp : P.testBit (i - 1 - a) = true := hp
      have hq : P.testBit (i - 1 - b) = true := hq
      exact hf a ha (by rw [hsP a ha]; exact hp) b hb (by rw [hsP b hb]; exact hq)
    have e1 : P * 2 ^ 0 + 2 ^ 0 - 1 = P := by simp
    rw [e1, show (2 : Nat) ^ 0 = 0 + 1 from rfl, down, down, srch, pick, hfr, hb.cnt, hr.cnt]
    by_cases hc : cnt rb.testBit i < cnt P.testBit i
    · rw [if_pos hc, if_pos ⟨rfl, hc⟩]; exact hr
    · rw [if_neg hc, if_neg (fun x => hc x.2)]; exact hb
  | succ k ih =>
    intro i s P best rb hn hs hP hsP hf hb
    have hi : i < n := by omega
    have h2 : (2 : Nat) ^ (k + 1) = 2 ^ k + 2 ^ k := by rw [Nat.pow_succ]; omega
    have hpos := Nat.two_pow_pos k
    have eu : P * 2 ^ (k + 1) + 2 ^ (k + 1) - 1 = (2 * P + 1) * 2 ^ k + 2 ^ k - 1 := by
      rw [h2, Nat.mul_add, Nat.add_mul, Nat.mul_assoc]
      omega
    have el : P * 2 ^ (k + 1) + 2 ^ (k + 1) - 1 - 2 ^ k = (2 * P) * 2 ^ k + 2 ^ k - 1 := by
      rw [h2, Nat.mul_add, Nat.mul_assoc]
      omega
    -- the numbers of a block, by their bits
    have blk : ∀ t, t < 2 ^ (k + 1) → ∃ u, u < 2 ^ (k + 1) ∧ P * 2 ^ (k + 1) + 2 ^ (k + 1) - 1 - t = P * 2 ^ (k + 1) + u := fun t ht => ⟨2 ^ (k + 1) - 1 - t, by omega, by omega⟩
    have hcs : cnt s.testBit n = cnt s.testBit i := by
      rw [← hn, cnt_add]
      have : cnt (fun j => s.testBit (i + j)) (k + 1) = cnt (fun _ => false) (k + 1) := cnt_congr fun j _ => bit_ge hs (by omega)
      rw [this]
      have z : ∀ m, cnt (fun _ => false) m = 0 := fun m => by induction m with
        | zero => rfl
        | succ m ih => rw [cnt, ih]; rfl
      rw [z]; rfl
    have size : ∀ u, u < 2 ^ (k + 1) → cnt (P * 2 ^ (k + 1) + u).testBit n ≤ cnt s.testBit n + (k + 1) := by
      intro u hu
      rw [← cnt_rev, hcs, ← hn, cnt_add]
      have e : cnt (fun a => (P * 2 ^ (k + 1) + u).testBit (i + (k + 1) - 1 - a)) i = cnt s.testBit i := by
        refine cnt_congr fun a ha => ?_
        rw [show i + (k + 1) - 1 - a = (k + 1) + (i - 1 - a) by omega, bits_high hu, ← hsP a ha]
      rw [e]
      have := cnt_le (fun j => (P * 2 ^ (k + 1) + u).testBit (i + (k + 1) - 1 - (i + j))) (k + 1)
      omega
    rw [srch]
    by_cases hc : cnt s.testBit n + (k + 1) ≤ cnt best.testBit n
    · rw [if_pos hc, down_same]
      · exact hb
      · intro t ht _
        obtain ⟨u, hu, e⟩ := blk t ht
        rw [e, ← hb.cnt]
        have := size u hu
        omega
    · rw [if_neg hc]
      have step : Rev n (if K i &&& s = 0 then srch n K k (i + 1) (s ||| 2 ^ i) best else best) (down n L (2 ^ k) ((2 * P + 1) * 2 ^ k + 2 ^ k - 1) rb) := by
        by_cases hm : K i &&& s = 0
        · rw [if_pos hm]
          have hm' := (h.meet hi).1 hm
          have hbit : ∀ a, (s ||| 2 ^ i).testBit a = (s.testBit a || decide (i = a)) := fun a => by rw [Nat.testBit_or, Nat.testBit_two_pow]
          refine ih (i + 1) (s ||| 2 ^ i) (2 * P + 1) best rb (by omega) ?_ ?_ ?_ ?_ hb
          · exact Nat.or_lt_two_pow (by rw [Nat.pow_succ]; omega) (by rw [Nat.pow_succ]; have := Nat.two_pow_pos i; omega)
          · rw [Nat.pow_succ]; omega
          · intro a ha
            rw [hbit]
            by_cases hai : a = i
            · subst hai
              rw [show a + 1 - 1 - a = 0 by omega]
              simp [Nat.testBit_zero]
            · rw [show i + 1 - 1 - a = (i - 1 - a) + 1 by omega, Nat.testBit_succ, show (2 * P + 1) / 2 = P by omega, ← hsP a (by omega)]
              have : ¬ i = a := fun x => hai x.symm
              simp [this]
          · intro a ha hp b hb hq
            rw [hbit] at hp hq
            by_cases ha1 : i = a
            · by_cases hb1 : i = b
              · subst ha1; subst hb1; exact h.self _
              · subst ha1
                exact hm' b hb (by simpa [hb1] using hq)
            · by_cases hb1 : i = b
              · subst hb1
                rw [h.symm]
                exact hm' a ha (by simpa [ha1] using hp)
              · exact hf a ha (by simpa [ha1] using hp) b hb (by simpa [hb1] using hq)
        · rw [if_neg hm, down_same]
          · exact hb
          · intro t ht hfr
            exfalso
            apply hm
            rw [h.meet hi]
            rw [h.free] at hfr
            have ex : ∃ u, u < 2 ^ k ∧ (2 * P + 1) * 2 ^ k + 2 ^ k - 1 - t = (2 * P + 1) * 2 ^ k + u := ⟨2 ^ k - 1 - t, by omega, by omega⟩
            obtain ⟨u, hu, e⟩ := ex
            rw [e] at hfr
            intro j hj hsj
            have hji : j < i := by
              rcases Nat.lt_or_ge j i with x | x
              · exact x
              · rw [bit_ge hs x] at hsj; cases hsj
            refine hfr i hi ?_ j hj ?_
            · show ((2 * P + 1) * 2 ^ k + u).testBit (n - 1 - i) = true
              rw [show n - 1 - i = k + 0 by omega, bits_high hu]
              simp [Nat.testBit_zero]
            · show ((2 * P + 1) * 2 ^ k + u).testBit (n - 1 - j) = true
              rw [show n - 1 - j = k + (i - 1 - j + 1) by omega, bits_high hu, Nat.testBit_succ, show (2 * P + 1) / 2 = P by omega, ← hsP j hji]
              exact hsj
      rw [h2, down_add, ← h2, el, eu]
      refine ih (i + 1) s (2 * P) _ _ (by omega) (by rw [Nat.pow_succ]; omega) (by rw [Nat.pow_succ]; omega) ?_ hf step
      intro a ha
      by_cases hai : a = i
      · subst hai
        rw [show a + 1 - 1 - a = 0 by omega, bit_ge hs (Nat.le_refl _)]
        simp [Nat.testBit_zero]
      · rw [show i + 1 - 1 - a = (i - 1 - a) + 1 by omega, Nat.testBit_succ, show (2 * P) / 2 = P by omega, ← hsP a (by omega)]

/-- The whole search: the best from below is the best from above. -/
theorem srch_all {n : Nat} {C : Nat → Nat → Bool} {K L : Nat → Nat} (h : Known n C K L) : Rev n (srch n K n 0 0 0) (down n L (2 ^ n) (2 ^ n - 1) 0) := by
  have := srch_down h n 0 0 0 0 0 (by omega) (by simp) (by simp) (fun a ha => by omega) (fun a _ hp => by simp at hp) (Rev.zero n)
  simpa using this

end Go.Firn
