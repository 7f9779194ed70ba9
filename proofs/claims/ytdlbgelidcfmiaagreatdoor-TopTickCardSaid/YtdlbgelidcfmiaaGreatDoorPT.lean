/- The plain law of TickStraights, first part: the marks that a clock keeps, and that it stays the same clock. The plain law of TickStraights, second part: the marks that are kept are kept again; clocks that are the same have the same inner marks. The plain law of TickStraights, third part: clocks that turn at each inner mark are the same exactly if their inner marks and their first and last lines are. The plain law of TickStraights, last part: what the law asks. -/
import Derived.Test.YtdlbgelidcfmiaaGreatDoorWX
namespace Go.Proofs.YtdlbgelidcfmiaaGreatDoor
open Go.RowKit Go.Firn

/-- The indexes that are kept. -/
def fl (p : Nat → Bool) (n : Nat) : List Nat := (List.range n).filter p
def kx (p : Nat → Bool) (n t : Nat) : Nat := (fl p n).getD t 0
theorem kx_get {p : Nat → Bool} {n t : Nat} (h : t < (fl p n).length) : kx p n t = (fl p n)[t] := by
  unfold kx
  rw [List.getD_eq_getElem?_getD, List.getElem?_eq_getElem h]
  rfl
theorem kx_mem {p : Nat → Bool} {n t : Nat} (h : t < (fl p n).length) : kx p n t < n ∧ p (kx p n t) = true := by
  have := List.getElem_mem h
  rw [← kx_get h] at this
  unfold fl at this
  rw [List.mem_filter, List.mem_range] at this
  exact this
theorem kx_mono {p : Nat → Bool} {n s t : Nat} (h : s < t) (ht : t < (fl p n).length) : kx p n s < kx p n t := by
  have hp : (fl p n).Pairwise (· < ·) := List.Pairwise.filter p List.pairwise_lt_range
  rw [kx_get ht, kx_get (show s < (fl p n).length by omega)]
  exact List.pairwise_iff_getElem.1 hp s t (by omega) ht h
theorem kx_of {p : Nat → Bool} {n i : Nat} (hi : i < n) (h : p i = true) : ∃ t, t < (fl p n).length ∧ kx p n t = i := by
  have : i ∈ fl p n := List.mem_filter.2 ⟨List.mem_range.2 hi, h⟩
  obtain ⟨t, ht, e⟩ := List.getElem_of_mem this
  exact ⟨t, ht, by rw [kx_get ht]; exact e⟩
theorem kx_first {p : Nat → Bool} {n : Nat} (hn : 0 < n) (h : p 0 = true) : 0 < (fl p n).length ∧ kx p n 0 = 0 := by
  obtain ⟨t, ht, e⟩ := kx_of hn h
  refine ⟨by omega, ?_⟩
  rcases Nat.eq_zero_or_pos t with rfl | h0
  · exact e
  · have := kx_mono h0 ht; omega
theorem kx_last {p : Nat → Bool} {n : Nat} (hn : 0 < n) (h : p (n - 1) = true) : kx p n ((fl p n).length - 1) = n - 1 := by
  obtain ⟨t, ht, e⟩ := kx_of (show n - 1 < n by omega) h
  by_cases h0 : t = (fl p n).length - 1
  · rw [← h0]; exact e
  · have := kx_mono (p := p) (n := n) (show t < (fl p n).length - 1 by omega) (by omega)
    have := (kx_mem (show (fl p n).length - 1 < (fl p n).length by omega)).1
    omega
theorem kx_gap {p : Nat → Bool} {n t i : Nat} (ht : t + 1 < (fl p n).length) (h1 : kx p n t < i) (h2 : i < kx p n (t + 1)) : p i = false := by
  cases h : p i with
  | false => rfl
  | true =>
    obtain ⟨u, hu, e⟩ := kx_of (show i < n by have := (kx_mem ht).1; omega) h
    rcases Nat.lt_or_ge t u with a | a
    · rcases Nat.lt_or_eq_of_le (show t + 1 ≤ u by omega) with b | rfl
      · have := kx_mono b hu; omega
      · omega
    · rcases Nat.lt_or_eq_of_le a with b | rfl
      · have := kx_mono b (show t < (fl p n).length by omega); omega
      · omega

/-- Lowest terms alike: the products across are. -/
theorem red_back {a b c d : Int} (hb : 0 < b) (h1 : rN a b = rN c d) (h2 : rD a b = rD c d) : a * d = c * b := by
  have e1 := red_mul a b
  have e2 := red_mul c d
  have p := rD_pos a hb
  rw [← h1, ← h2] at e2
  generalize rN a b = N at *
  generalize rD a b = D at *
  refine Int.eq_of_mul_eq_mul_right (a := D) (by omega) ?_
  calc a * d * D = (a * D) * d := by ac_rfl
    _ = (N * b) * d := by rw [e1]
    _ = (N * d) * b := by ac_rfl
    _ = (c * D) * b := by rw [e2]
    _ = c * b * D := by ac_rfl

section
variable {n : Nat} {L T : Nat → Int}
theorem stK_first (_hn : 2 ≤ n) : stK n L T 0 = true := by simp [stK]
theorem stK_last (_hn : 2 ≤ n) : stK n L T (n - 1) = true := by simp [stK]
theorem stK_false {i : Nat} (h : stK n L T i = false) : i ≠ 0 ∧ i ≠ n - 1 ∧ sF L T (i - 1) = sF L T i ∧ sG L T (i - 1) = sG L T i := by
  simp [stK] at h
  exact ⟨h.1.1, h.1.2, h.2.1, h.2.2⟩
theorem stK_true {i : Nat} (h : stK n L T i = true) : i = 0 ∨ i = n - 1 ∨ ¬ (sF L T (i - 1) = sF L T i ∧ sG L T (i - 1) = sG L T i) := by
  by_cases h0 : i = 0
  · exact .inl h0
  by_cases h1 : i = n - 1
  · exact .inr (.inl h1)
  refine .inr (.inr fun k => ?_)
  unfold stK at h
  rw [decide_eq_false h0, decide_eq_false h1, decide_eq_true k.1, decide_eq_true k.2] at h
  cases h

/-- The lines of one run have one slope. -/
theorem run_slope (hv : vK n L T = true) {k : Nat} : ∀ {j : Nat}, k ≤ j → j + 1 < n → (∀ i, k < i → i ≤ j → stK n L T i = false) → aD T k * aD L j = aD T j * aD L k := by
  intro j
  induction j with
  | zero => intro h _ _; obtain rfl : k = 0 := (by omega); rfl
  | succ j ih =>
    intro h1 h2 h3
    rcases Nat.lt_or_eq_of_le h1 with h | rfl
    · have hi := ih (by omega) (by omega) fun i a b => h3 i a (by omega)
      obtain ⟨-, -, e1, e2⟩ := stK_false (h3 (j + 1) h (Nat.le_refl _))
      rw [Nat.add_sub_cancel] at e1 e2
      have q1 := aD_pos hv (i := j) (by omega)
      have q2 := aD_pos hv (i := j + 1) (by omega)
      have e := red_back q1 e1 e2
      refine Int.eq_of_mul_eq_mul_right (a := aD L j) (by omega) ?_
      calc aD T k * aD L (j + 1) * aD L j = (aD T k * aD L j) * aD L (j + 1) := by ac_rfl
        _ = (aD T j * aD L k) * aD L (j + 1) := by rw [hi]
        _ = (aD T j * aD L (j + 1)) * aD L k := by ac_rfl
        _ = (aD T (j + 1) * aD L j) * aD L k := by rw [e]
        _ = aD T (j + 1) * aD L k * aD L j := by ac_rfl
    · rfl
/-- The marks of one run lie on its first line. -/
theorem run_point (hv : vK n L T = true) {k : Nat} (hk : k + 1 < n) : ∀ {j : Nat}, k ≤ j → j < n → (∀ i, k < i → i < j → stK n L T i = false) → (T j - T k) * aD L k = aD T k * (L j - L k) := by
  intro j
  induction j with
  | zero => intro h _ _; obtain rfl : k = 0 := (by omega); simp
  | succ j ih =>
    intro h1 h2 h3
    rcases Nat.lt_or_eq_of_le h1 with h | rfl
    · have hi := ih (by omega) (by omega) fun i a b => h3 i a (by omega)
      have s := run_slope hv (k := k) (j := j) (by omega) h2 fun i a b => h3 i a (by omega)
      have e1 : T (j + 1) - T k = (T j - T k) + aD T j := by unfold aD; omega
      have e2 : L (j + 1) - L k = (L j - L k) + aD L j := by unfold aD; omega
      rw [e1, e2, Int.add_mul, Int.mul_add, hi, ← s]
    · simp
/-- Any line of a run is the run's. -/
theorem run_line (hv : vK n L T = true) {k j l : Nat} (h1 : k ≤ j) (h2 : j < l) (hl : l < n) (h3 : ∀ i, k < i → i < l → stK n L T i = false) (x : Int) :
    ((x - L k) * (T l - T k) + T k * (L l - L k)) * aD L j = aN L T j x * (L l - L k) := by
  have pk := run_point hv (k := k) (j := j) (by omega) h1 (by omega) fun i a b => h3 i a (by omega)
  have pl := run_point hv (k := k) (j := l) (by omega) (by omega) hl h3
  have s := run_slope hv (k := k) (j := j) h1 (by omega) fun i a b => h3 i a (by omega)
  have q := aD_pos hv (i := k) (by omega)
  have hN : aN L T j x = (x - L j) * aD T j + T j * aD L j := rfl
  refine Int.eq_of_mul_eq_mul_right (a := aD L k) (by omega) ?_
  -- both sides, times aD L k, are ((x - L k) aD T k + T k aD L k) (L l - L k) aD L j
  have a1 : ((x - L k) * (T l - T k) + T k * (L l - L k)) * aD L j * aD L k = ((x - L k) * aD T k + T k * aD L k) * (L l - L k) * aD L j := by
    have e : ((x - L k) * (T l - T k) + T k * (L l - L k)) * aD L k = ((x - L k) * aD T k + T k * aD L k) * (L l - L k) := by
      rw [Int.add_mul, Int.add_mul]
      have u1 : (x - L k) * (T l - T k) * aD L k = (x - L k) * aD T k * (L l - L k) := by rw [Int.mul_assoc, pl, Int.mul_assoc]
      have u2 : T k * (L l - L k) * aD L k = T k * aD L k * (L l - L k) := by ac_rfl
      rw [u1, u2]
    calc _ = ((x - L k) * (T l - T k) + T k * (L l - L k)) * aD L k * aD L j := by ac_rfl
      _ = _ := by rw [e]
  have a2 : aN L T j x * aD L k = ((x - L k) * aD T k + T k * aD L k) * aD L j := by
    rw [hN, Int.add_mul, Int.add_mul]
    have u1 : (x - L j) * aD T j * aD L k = (x - L j) * aD T k * aD L j := by rw [Int.mul_assoc, ← s, Int.mul_assoc]
    have u2 : T j * aD L j * aD L k = (T k * aD L k + aD T k * (L j - L k)) * aD L j := by
      rw [← pk]
      have : T k * aD L k + (T j - T k) * aD L k = T j * aD L k := by rw [← Int.add_mul]; congr 1; omega
      rw [this]
      ac_rfl
    have u3 : (x - L k) * aD T k * aD L j = (x - L j) * aD T k * aD L j + aD T k * (L j - L k) * aD L j := by
      rw [← Int.add_mul]
      congr 1
      rw [Int.mul_comm (aD T k), ← Int.add_mul]
      congr 1
      omega
    rw [u1, u2, u3, Int.add_mul]
    omega
  rw [a1]
  calc _ = ((x - L k) * aD T k + T k * aD L k) * aD L j * (L l - L k) := by ac_rfl
    _ = aN L T j x * aD L k * (L l - L k) := by rw [a2]
    _ = aN L T j x * (L l - L k) * aD L k := by ac_rfl
end

/-- The marks that are kept, as functions. -/
def kL (n : Nat) (L T : Nat → Int) (t : Nat) : Int := L (kx (stK n L T) n t)
def kT (n : Nat) (L T : Nat → Int) (t : Nat) : Int := T (kx (stK n L T) n t)
def kM (n : Nat) (L T : Nat → Int) : Nat := (fl (stK n L T) n).length

section
variable {n : Nat} {L T : Nat → Int}
theorem kM_two (hv : vK n L T = true) : 2 ≤ kM n L T := by
  have hn := (vK_true.1 hv).1
  obtain ⟨h0, e0⟩ := kx_first (p := stK n L T) (n := n) (by omega) (stK_first hn)
  have e1 := kx_last (p := stK n L T) (n := n) (by omega) (stK_last hn)
  unfold kM
  by_cases h : (fl (stK n L T) n).length = 1
  · rw [h] at e1
    simp only [Nat.sub_self] at e1
    omega
  · omega
theorem kM_le (n : Nat) (L T : Nat → Int) : kM n L T ≤ n := by
  have := List.length_filter_le (stK n L T) (List.range n)
  rw [List.length_range] at this
  exact this
theorem vK_kept (hv : vK n L T = true) : vK (kM n L T) (kL n L T) (kT n L T) = true := by
  obtain ⟨hn, hn30, hB, hs⟩ := vK_true.1 hv
  have h2 := kM_two hv
  have hle := kM_le n L T
  refine vK_true.2 ⟨h2, by omega, fun i hi => hB _ (kx_mem hi).1, fun i hi => ?_⟩
  have hlt := kx_mono (p := stK n L T) (n := n) (show i < i + 1 by omega) hi
  have hl := (kx_mem (p := stK n L T) (n := n) hi).1
  exact ⟨asc_lt (T := L) (fun i hi => (hs i hi).1) hlt hl, asc_lt (T := T) (fun i hi => (hs i hi).2) hlt hl⟩

/-- Where the line at x lies. -/
theorem kx_run (hv : vK n L T = true) (x : Int) : kx (stK n L T) n (ix (pA (kL n L T) x) (kM n L T)) ≤ ix (pA L x) n ∧ ix (pA L x) n < kx (stK n L T) n (ix (pA (kL n L T) x) (kM n L T) + 1) := by
  obtain ⟨hn, hn30, hB, hs⟩ := vK_true.1 hv
  have h2 := kM_two hv
  have hi := ix_le (pA L x) n
  have hj := ix_le (pA (kL n L T) x) (kM n L T)
  have yi : ∀ m, 0 < m → m ≤ ix (pA L x) n → L m ≤ x := fun m h h' => of_decide_eq_true (show decide (L m ≤ x) = true from ix_yes (p := pA L x) (n := n) h h')
  have yj : ∀ m, 0 < m → m ≤ ix (pA (kL n L T) x) (kM n L T) → L (kx (stK n L T) n m) ≤ x := fun m h h' => of_decide_eq_true (show decide (kL n L T m ≤ x) = true from ix_yes (p := pA (kL n L T) x) (n := kM n L T) h h')
  have ni : ix (pA L x) n = n - 2 ∨ ¬ L (ix (pA L x) n + 1) ≤ x := (ix_no (pA L x) n).imp id fun h => of_decide_eq_false (show decide (L _ ≤ x) = false from h)
  have nj : ix (pA (kL n L T) x) (kM n L T) = kM n L T - 2 ∨ ¬ L (kx (stK n L T) n (ix (pA (kL n L T) x) (kM n L T) + 1)) ≤ x := (ix_no (pA (kL n L T) x) (kM n L T)).imp id fun h => of_decide_eq_false (show decide (kL n L T _ ≤ x) = false from h)
  have e0 := (kx_first (p := stK n L T) (n := n) (by omega) (stK_first hn)).2
  have e1 : kx (stK n L T) n (kM n L T - 1) = n - 1 := kx_last (p := stK n L T) (n := n) (by omega) (stK_last hn)
  have mono := fun {s t : Nat} (h : s < t) (ht : t < kM n L T) => kx_mono (p := stK n L T) (n := n) h ht
  have mem := fun {t : Nat} (ht : t < kM n L T) => (kx_mem (p := stK n L T) (n := n) ht).1
  have asc := fun {j k : Nat} (h : j < k) (hk : k < n) => asc_lt (T := L) (fun i hi => (hs i hi).1) h hk
  generalize ix (pA L x) n = i at *
  generalize ix (pA (kL n L T) x) (kM n L T) = t at *
  generalize kM n L T = m at *
  generalize kx (stK n L T) n = K at *
  constructor
  · rcases Nat.eq_zero_or_pos t with rfl | ht
    · omega
    · have a := yj t ht (Nat.le_refl _)
      rcases Nat.lt_or_ge i (K t) with h | h
      · have b := mono (show t < m - 1 by omega) (by omega)
        rcases ni with c | c
        · omega
        · rcases Nat.lt_or_eq_of_le (show i + 1 ≤ K t by omega) with d | d
          · have := asc d (mem (by omega)); omega
          · rw [d] at c; omega
      · exact h
  · rcases Nat.lt_or_ge i (K (t + 1)) with h | h
    · exact h
    · have b := mono (show t < t + 1 by omega) (by omega)
      have a := yi (K (t + 1)) (by omega) h
      rcases nj with c | c
      · rw [show t + 1 = m - 1 by omega, e1] at h; omega
      · exact absurd a c

/-- THE CLOCK WITHOUT NEEDLESS MARKS HAS THE SAME TIME. -/
theorem kept_time (hv : vK n L T = true) (x : Int) : AN (kM n L T) (kL n L T) (kT n L T) x = AN n L T x ∧ AD (kM n L T) (kL n L T) (kT n L T) x = AD n L T x := by
  obtain ⟨hn, hn30, hB, hs⟩ := vK_true.1 hv
  have h2 := kM_two hv
  have hj := ix_le (pA (kL n L T) x) (kM n L T)
  have hi := ix_le (pA L x) n
  obtain ⟨r1, r2⟩ := kx_run hv x
  have d1 := (aD_bd (vK_kept hv) (pA (kL n L T) x)).1
  have d2 := (aD_bd hv (pA L x)).1
  unfold AN AD
  refine red_eq d1 d2 ?_
  have hl := (kx_mem (p := stK n L T) (n := n) (t := ix (pA (kL n L T) x) (kM n L T) + 1) (by unfold kM at *; omega)).1
  exact run_line hv r1 r2 hl (fun i a b => kx_gap (by unfold kM at *; omega) a b) x

end
end Go.Proofs.YtdlbgelidcfmiaaGreatDoor

namespace Go.Proofs.YtdlbgelidcfmiaaGreatDoor
open Go.RowKit Go.Firn

/-! ## Two lines -/
theorem line_to {l0 t0 d e l2 t2 d' e' : Int} (H1 : (t2 - t0) * d = (l2 - l0) * e) (H2 : (t2 + e' - t0) * d = (l2 + d' - l0) * e) (x : Int) :
    ((x - l0) * e + t0 * d) * d' = ((x - l2) * e' + t2 * d') * d := by
  have h : e' * d = d' * e := by
    rw [show t2 + e' - t0 = (t2 - t0) + e' by omega, show l2 + d' - l0 = (l2 - l0) + d' by omega, Int.add_mul, Int.add_mul] at H2
    omega
  have a : (x - l2) * e' * d = (x - l2) * d' * e := by rw [Int.mul_assoc, h, Int.mul_assoc]
  have b : t2 * d' * d = t0 * d * d' + (l2 - l0) * e * d' := by
    rw [← H1, ← Int.add_mul, ← Int.add_mul, show t0 + (t2 - t0) = t2 by omega]
    ac_rfl
  have c : (x - l0) * e * d' = (x - l2) * d' * e + (l2 - l0) * e * d' := by
    rw [show x - l0 = (x - l2) + (l2 - l0) by omega, Int.add_mul, Int.add_mul]
    congr 1
    ac_rfl
  rw [Int.add_mul, Int.add_mul, a, b, c]
  omega
theorem line_from {l0 t0 d e l2 t2 d' e' : Int} (hd' : 0 < d') (y : Int) (h0 : ((y - l0) * e + t0 * d) * d' = ((y - l2) * e' + t2 * d') * d)
    (h1 : ((y + 1 - l0) * e + t0 * d) * d' = ((y + 1 - l2) * e' + t2 * d') * d) : (t2 - t0) * d = (l2 - l0) * e ∧ (t2 + e' - t0) * d = (l2 + d' - l0) * e := by
  have h : e * d' = e' * d := by
    have u1 : ((y + 1 - l0) * e + t0 * d) * d' = ((y - l0) * e + t0 * d) * d' + e * d' := by
      rw [← Int.add_mul]; congr 1
      rw [show y + 1 - l0 = (y - l0) + 1 by omega, Int.add_mul, Int.one_mul]; omega
    have u2 : ((y + 1 - l2) * e' + t2 * d') * d = ((y - l2) * e' + t2 * d') * d + e' * d := by
      rw [← Int.add_mul]; congr 1
      rw [show y + 1 - l2 = (y - l2) + 1 by omega, Int.add_mul, Int.one_mul]; omega
    omega
  have k : (t2 - t0) * d = (l2 - l0) * e := by
    refine Int.eq_of_mul_eq_mul_right (a := d') (by omega) ?_
    have a : (y - l2) * e' * d = (y - l2) * e * d' := by rw [Int.mul_assoc, ← h, Int.mul_assoc]
    have c : (y - l0) * e * d' = (y - l2) * e * d' + (l2 - l0) * e * d' := by
      rw [show y - l0 = (y - l2) + (l2 - l0) by omega, Int.add_mul, Int.add_mul]
    have b : t2 * d' * d = t2 * d * d' := by ac_rfl
    rw [Int.add_mul, Int.add_mul, a, b, c] at h0
    rw [Int.sub_mul t2 t0 d, Int.sub_mul]
    omega
  refine ⟨k, ?_⟩
  rw [show t2 + e' - t0 = (t2 - t0) + e' by omega, show l2 + d' - l0 = (l2 - l0) + d' by omega, Int.add_mul, Int.add_mul, k, ← h, Int.mul_comm e d']

/-- Are two lines one: what the law asks of four marks. -/
def sLn (L T : Nat → Int) (i : Nat) (L' T' : Nat → Int) (j : Nat) : Prop := (T' j - T i) * aD L i = (L' j - L i) * aD T i ∧ (T' (j + 1) - T i) * aD L i = (L' (j + 1) - L i) * aD T i
theorem sLn_to {L T L' T' : Nat → Int} {i j : Nat} (h : sLn L T i L' T' j) (x : Int) : aN L T i x * aD L' j = aN L' T' j x * aD L i := by
  obtain ⟨h1, h2⟩ := h
  exact line_to (e' := aD T' j) (d' := aD L' j) h1 (by rw [show T' j + aD T' j = T' (j + 1) by unfold aD; omega, show L' j + aD L' j = L' (j + 1) by unfold aD; omega]; exact h2) x
theorem sLn_from {L T L' T' : Nat → Int} {i j : Nat} (hd' : 0 < aD L' j) (y : Int) (h0 : aN L T i y * aD L' j = aN L' T' j y * aD L i) (h1 : aN L T i (y + 1) * aD L' j = aN L' T' j (y + 1) * aD L i) : sLn L T i L' T' j := by
  obtain ⟨k1, k2⟩ := line_from (l0 := L i) (t0 := T i) (d := aD L i) (e := aD T i) (l2 := L' j) (t2 := T' j) (d' := aD L' j) (e' := aD T' j) hd' y h0 h1
  rw [show T' j + aD T' j = T' (j + 1) by unfold aD; omega, show L' j + aD L' j = L' (j + 1) by unfold aD; omega] at k2
  exact ⟨k1, k2⟩

/-! ## The marks that are kept -/
section
variable {n : Nat} {L T : Nat → Int}
theorem stL_kept (n : Nat) (L T : Nat → Int) : stL n L T n = pairs (kM n L T) (kL n L T) (kT n L T) := by
  refine List.ext_getElem (by rw [pairs_length]; simp [stL, kM, fl]) fun t h1 h2 => ?_
  have ht : t < (fl (stK n L T) n).length := by rw [pairs_length] at h2; exact h2
  have e := kx_get ht
  simp only [stL, pairs, List.getElem_map, List.getElem_range, kL, kT, e, fl]

/-- A line of a run has the run's slope. -/
theorem run_aD (hv : vK n L T = true) {k j l : Nat} (h1 : k ≤ j) (h2 : j < l) (hl : l < n) (h3 : ∀ i, k < i → i < l → stK n L T i = false) : (T l - T k) * aD L j = aD T j * (L l - L k) := by
  have pl := run_point hv (k := k) (j := l) (by omega) (by omega) hl h3
  have s := run_slope hv (k := k) (j := j) h1 (by omega) fun i a b => h3 i a (by omega)
  have q := aD_pos hv (i := k) (by omega)
  refine Int.eq_of_mul_eq_mul_right (a := aD L k) (by omega) ?_
  calc (T l - T k) * aD L j * aD L k = (T l - T k) * aD L k * aD L j := by ac_rfl
    _ = aD T k * (L l - L k) * aD L j := by rw [pl]
    _ = aD T k * aD L j * (L l - L k) := by ac_rfl
    _ = aD T j * aD L k * (L l - L k) := by rw [s]
    _ = aD T j * (L l - L k) * aD L k := by ac_rfl

/-- The slopes turn at each inner mark. -/
def Kn (m : Nat) (L T : Nat → Int) : Prop := ∀ t, 0 < t → t + 1 < m → aD T (t - 1) * aD L t ≠ aD T t * aD L (t - 1)
theorem kept_kn (hv : vK n L T = true) : Kn (kM n L T) (kL n L T) (kT n L T) := by
  intro t h0 h1 he
  have h1' : t + 1 < (fl (stK n L T) n).length := h1
  have hn := (vK_true.1 hv).1
  have m1 := kx_mono (p := stK n L T) (n := n) (show t - 1 < t by omega) (by omega)
  have m2 := kx_mono (p := stK n L T) (n := n) (show t < t + 1 by omega) h1'
  have l1 := (kx_mem (p := stK n L T) (n := n) h1').1
  have yes := (kx_mem (p := stK n L T) (n := n) (show t < (fl (stK n L T) n).length by omega)).2
  have g1 := fun i => kx_gap (p := stK n L T) (n := n) (t := t - 1) (i := i) (by omega)
  rw [show t - 1 + 1 = t by omega] at g1
  have g2 := fun i => kx_gap (p := stK n L T) (n := n) (t := t) (i := i) h1'
  have a1 := run_aD hv (k := kx (stK n L T) n (t - 1)) (j := kx (stK n L T) n t - 1) (l := kx (stK n L T) n t) (by omega) (by omega) (by omega) g1
  have a2 := run_aD hv (k := kx (stK n L T) n t) (j := kx (stK n L T) n t) (l := kx (stK n L T) n (t + 1)) (by omega) m2 l1 g2
  have e1 : aD (kT n L T) (t - 1) = T (kx (stK n L T) n t) - T (kx (stK n L T) n (t - 1)) := by unfold aD kT; rw [show t - 1 + 1 = t by omega]
  have e2 : aD (kL n L T) (t - 1) = L (kx (stK n L T) n t) - L (kx (stK n L T) n (t - 1)) := by unfold aD kL; rw [show t - 1 + 1 = t by omega]
  have e3 : aD (kT n L T) t = T (kx (stK n L T) n (t + 1)) - T (kx (stK n L T) n t) := rfl
  have e4 : aD (kL n L T) t = L (kx (stK n L T) n (t + 1)) - L (kx (stK n L T) n t) := rfl
  have p1 := aD_pos (vK_kept hv) (i := t - 1) (by omega)
  have p2 := aD_pos (vK_kept hv) (i := t) h1
  rw [← e1, ← e2] at a1
  rw [← e3, ← e4] at a2
  have q1 := aD_pos hv (i := kx (stK n L T) n t - 1) (by omega)
  have q2 := aD_pos hv (i := kx (stK n L T) n t) (by omega)
  rcases stK_true yes with h | h | h
  · omega
  · omega
  · apply h
    refine red_eq q1 q2 ?_
    -- aD T j1 * aD L j2 = aD T j2 * aD L j1
    generalize kx (stK n L T) n t = j at *
    refine Int.eq_of_mul_eq_mul_right (a := aD (kL n L T) (t - 1) * aD (kL n L T) t) (by have := Int.mul_pos p1 p2; omega) ?_
    generalize aD (kT n L T) (t - 1) = A at *
    generalize aD (kL n L T) (t - 1) = B at *
    generalize aD (kT n L T) t = C at *
    generalize aD (kL n L T) t = D at *
    calc aD T (j - 1) * aD L j * (B * D) = (aD T (j - 1) * B) * D * aD L j := by ac_rfl
      _ = (A * aD L (j - 1)) * D * aD L j := by rw [a1]
      _ = (A * D) * aD L (j - 1) * aD L j := by ac_rfl
      _ = (C * B) * aD L (j - 1) * aD L j := by rw [he]
      _ = (C * aD L j) * B * aD L (j - 1) := by ac_rfl
      _ = (aD T j * D) * B * aD L (j - 1) := by rw [a2]
      _ = aD T j * aD L (j - 1) * (B * D) := by ac_rfl
end

/-- A clock that turns at each inner mark keeps all. -/
theorem kn_all {m : Nat} {L T : Nat → Int} (hv : vK m L T = true) (hk : Kn m L T) {t : Nat} (ht : t < m) : stK m L T t = true := by
  cases h : stK m L T t with
  | true => rfl
  | false =>
    obtain ⟨h0, h1, e1, e2⟩ := stK_false h
    exact absurd (red_back (aD_pos hv (i := t - 1) (by omega)) e1 e2) (hk t (by omega) (by omega))
theorem kn_stL {m : Nat} {L T : Nat → Int} (hv : vK m L T = true) (hk : Kn m L T) : stL m L T m = pairs m L T := by
  unfold stL pairs
  rw [List.filter_eq_self.2 fun i hi => kn_all hv hk (List.mem_range.1 hi)]

end Go.Proofs.YtdlbgelidcfmiaaGreatDoor

namespace Go.Proofs.YtdlbgelidcfmiaaGreatDoor
open Go.RowKit Go.Firn

theorem ix_eq {n : Nat} {L T : Nat → Int} (hv : vK n L T = true) {x : Int} {i : Nat} (hi : i ≤ n - 2) (h1 : i = 0 ∨ L i ≤ x) (h2 : i = n - 2 ∨ x < L (i + 1)) : ix (pA L x) n = i := by
  obtain ⟨hn, _, _, hs⟩ := vK_true.1 hv
  have asc := fun {j k : Nat} (h : j < k) (hk : k < n) => asc_lt (T := L) (fun i hi => (hs i hi).1) h hk
  have hj := ix_le (pA L x) n
  have yi : ∀ m, 0 < m → m ≤ ix (pA L x) n → L m ≤ x := fun m h h' => of_decide_eq_true (show decide (L m ≤ x) = true from ix_yes (p := pA L x) (n := n) h h')
  have ni : ix (pA L x) n = n - 2 ∨ ¬ L (ix (pA L x) n + 1) ≤ x := (ix_no (pA L x) n).imp id fun h => of_decide_eq_false (show decide (L _ ≤ x) = false from h)
  generalize ix (pA L x) n = j at *
  rcases Nat.lt_trichotomy j i with h | h | h
  · rcases ni with c | c
    · omega
    · rcases h1 with d | d
      · omega
      · rcases Nat.lt_or_eq_of_le (show j + 1 ≤ i by omega) with e | e
        · have := asc e (by omega); omega
        · rw [e] at c; omega
  · exact h
  · have a := yi j (by omega) (Nat.le_refl _)
    rcases h2 with c | c
    · omega
    · rcases Nat.lt_or_eq_of_le (show i + 1 ≤ j by omega) with e | e
      · have := asc e (by omega); omega
      · rw [← e] at a; omega

theorem aN_at (L T : Nat → Int) (i : Nat) : aN L T i (L i) = T i * aD L i := by unfold aN aD; rw [Int.sub_self, Int.zero_mul, Int.zero_add]
theorem aN_succ (L T : Nat → Int) (i : Nat) (y : Int) : aN L T i (y + 1) = aN L T i y + aD T i := by
  unfold aN aD
  rw [show y + 1 - L i = (y - L i) + 1 by omega, Int.add_mul, Int.one_mul]
  omega
theorem aN_end (L T : Nat → Int) (i : Nat) : aN L T i (L (i + 1)) = T (i + 1) * aD L i := by
  unfold aN aD
  rw [Int.mul_comm (L (i + 1) - L i), ← Int.add_mul]
  congr 1
  omega

section
variable {m m' : Nat} {L T L' T' : Nat → Int}
/-- The same time at y: by any lines there. -/
theorem same_line {d d' a a' N D : Int} (hD : 0 < D) (h : N * d = a * D) (h' : N * d' = a' * D) : a * d' = a' * d := by
  refine Int.eq_of_mul_eq_mul_right (a := D) (by omega) ?_
  calc a * d' * D = (a * D) * d' := by ac_rfl
    _ = (N * d) * d' := by rw [h]
    _ = (N * d') * d := by ac_rfl
    _ = (a' * D) * d := by rw [h']
    _ = a' * d * D := by ac_rfl

/-- An inner mark of one is no smooth place of the other one. -/
theorem inner_not_smooth (hv : vK m L T = true) (hv' : vK m' L' T' = true) (hk : Kn m L T) (he : ∀ y, 0 ≤ y → y ≤ 100000 → AN m L T y = AN m' L' T' y ∧ AD m L T y = AD m' L' T' y)
    {t : Nat} (h0 : 0 < t) (h1 : t + 1 < m) : ¬ Smooth m' L' (L t) := by
  intro hs
  obtain ⟨hm, _, hB, hA⟩ := vK_true.1 hv
  have b0 := hB (t - 1) (by omega)
  have b2 := hB (t + 1) h1
  have a0 := (hA (t - 1) (by omega)).1
  have a1 := (hA t h1).1
  rw [show t - 1 + 1 = t by omega] at a0
  have i0 : ix (pA L (L t - 1)) m = t - 1 := ix_eq hv (by omega) (.inr (by omega)) (.inr (by rw [show t - 1 + 1 = t by omega]; omega))
  have i1 : ix (pA L (L t)) m = t := ix_eq hv (by omega) (.inr (by omega)) (.inr (by omega))
  have d0 := aD_pos hv (i := t - 1) (by omega)
  have d1 := aD_pos hv (i := t) h1
  have A0 := AN_line (y := L t - 1) hv d0 (by rw [i0])
  have A1 := AN_line (y := L t) hv d1 (by rw [i1])
  have s := same_time (L t) hv
  rw [i1] at s
  have A2 := AN_line (y := L t + 1) hv d1 s
  have ei' := hs.ix hv'
  have d1' := (aD_bd hv' (pA L' (L t - 1))).1
  have s' := same_time (L t) hv'
  rw [ei'] at s'
  have B0 := AN_line (y := L t - 1) hv' d1' rfl
  have B1 := AN_line (y := L t) hv' d1' (by rw [ei'])
  have B2 := AN_line (y := L t + 1) hv' d1' s'
  obtain ⟨n0, e0⟩ := he (L t - 1) (by omega) (by omega)
  obtain ⟨n1, e1⟩ := he (L t) (by omega) (by omega)
  obtain ⟨n2, e2⟩ := he (L t + 1) (by omega) (by omega)
  rw [← n0, ← e0] at B0
  rw [← n1, ← e1] at B1
  rw [← n2, ← e2] at B2
  have C0 := same_line (show 0 < AD m L T (L t - 1) by have := (AD_bd (L t - 1) hv).1; omega) A0 B0
  have C1 := same_line (show 0 < AD m L T (L t) by have := (AD_bd (L t) hv).1; omega) A1 B1
  have C2 := same_line (show 0 < AD m L T (L t + 1) by have := (AD_bd (L t + 1) hv).1; omega) A2 B2
  generalize ix (pA L' (L t - 1)) m' = j at *
  have u0 : aN L T (t - 1) (L t - 1) + aD T (t - 1) = T t * aD L (t - 1) := by
    have := aN_succ L T (t - 1) (L t - 1)
    have e := aN_end L T (t - 1)
    rw [show t - 1 + 1 = t by omega] at e
    rw [show L t - 1 + 1 = L t by omega, e] at this
    omega
  have u1 := aN_at L T t
  have u2 := aN_succ L T t (L t)
  have v0 := aN_succ L' T' j (L t - 1)
  rw [show L t - 1 + 1 = L t by omega] at v0
  have v2 := aN_succ L' T' j (L t)
  -- names
  have w1 : aN L' T' j (L t) = T t * aD L' j := by
    rw [u1] at C1
    refine Int.eq_of_mul_eq_mul_right (a := aD L t) (by omega) ?_
    rw [← C1]
    ac_rfl
  have x0 : aD T (t - 1) * aD L' j = aD T' j * aD L (t - 1) := by
    have p : aN L T (t - 1) (L t - 1) = T t * aD L (t - 1) - aD T (t - 1) := by omega
    have r : aN L' T' j (L t - 1) = T t * aD L' j - aD T' j := by omega
    rw [p, r, Int.sub_mul, Int.sub_mul] at C0
    have : T t * aD L (t - 1) * aD L' j = T t * aD L' j * aD L (t - 1) := by ac_rfl
    omega
  have x2 : aD T t * aD L' j = aD T' j * aD L t := by
    rw [u2, v2, u1, w1, Int.add_mul, Int.add_mul] at C2
    have : T t * aD L t * aD L' j = T t * aD L' j * aD L t := by ac_rfl
    omega
  refine hk t h0 h1 (Int.eq_of_mul_eq_mul_right (a := aD L' j) (by omega) ?_)
  calc aD T (t - 1) * aD L t * aD L' j = (aD T (t - 1) * aD L' j) * aD L t := by ac_rfl
    _ = (aD T' j * aD L (t - 1)) * aD L t := by rw [x0]
    _ = (aD T' j * aD L t) * aD L (t - 1) := by ac_rfl
    _ = (aD T t * aD L' j) * aD L (t - 1) := by rw [x2]
    _ = aD T t * aD L (t - 1) * aD L' j := by ac_rfl
theorem inner_of (hv : vK m L T = true) (hv' : vK m' L' T' = true) (hk : Kn m L T) (he : ∀ y, 0 ≤ y → y ≤ 100000 → AN m L T y = AN m' L' T' y ∧ AD m L T y = AD m' L' T' y)
    {t : Nat} (h0 : 0 < t) (h1 : t + 1 < m) : ∃ u, 0 < u ∧ u + 1 < m' ∧ L' u = L t := by
  have hm' := (vK_true.1 hv').1
  obtain ⟨u, hu⟩ := Classical.not_forall.1 (inner_not_smooth hv hv' hk he h0 h1)
  obtain ⟨u1, hu⟩ := Classical.not_imp.1 hu
  obtain ⟨u2, hu⟩ := Classical.not_imp.1 hu
  exact ⟨u, u1, by omega, Classical.not_not.1 hu⟩
/-- The time at an inner mark. -/
theorem at_mark (hv : vK m L T = true) {t : Nat} (h0 : 0 < t) (h1 : t + 1 < m) : AN m L T (L t) = T t := by
  have a1 := ((vK_true.1 hv).2.2.2 t h1).1
  have i1 : ix (pA L (L t)) m = t := ix_eq hv (by omega) (.inr (by omega)) (.inr (by omega))
  unfold AN
  rw [i1, aN_at]
  exact (red_whole (aD_pos hv h1)).1

theorem inner_le {p q : Nat} {f g : Nat → Int} (hf : ∀ s t, s < t → t ≤ p → f s < f t) (hg : ∀ s t, s < t → t ≤ q → g s < g t) (h1 : ∀ t, 0 < t → t ≤ p → ∃ u, 0 < u ∧ u ≤ q ∧ g u = f t) (h2 : ∀ t, 0 < t → t ≤ q → ∃ u, 0 < u ∧ u ≤ p ∧ f u = g t) :
    ∀ t, 0 < t → t ≤ p → t ≤ q ∧ g t = f t := by
  intro t
  induction t using Nat.strongRecOn with
  | ind t ih =>
    intro h0 ht
    obtain ⟨u, u0, u1, u2⟩ := h1 t h0 ht
    rcases Nat.lt_trichotomy u t with h | h | h
    · have a := (ih u h u0 (by omega)).2
      have b := hf u t h ht
      omega
    · subst h; exact ⟨u1, u2⟩
    · have a := hg t u h u1
      obtain ⟨s, s0, s1, s2⟩ := h2 t h0 (by omega)
      rcases Nat.lt_trichotomy s t with k | k | k
      · have b := (ih s k s0 (by omega)).2
        have c := hg s t k (by omega)
        omega
      · subst k; omega
      · have := hf t s k s1; omega

/-- What is alike of two clocks. -/
structure Like (m : Nat) (L T : Nat → Int) (m' : Nat) (L' T' : Nat → Int) : Prop where
  len : m = m'
  inner : ∀ t, 0 < t → t + 1 < m → L' t = L t ∧ T' t = T t
  first : sLn L T 0 L' T' 0
  last : sLn L T (m - 2) L' T' (m' - 2)

theorem inner_eq (hv : vK m L T = true) (hv' : vK m' L' T' = true) (hk : Kn m L T) (hk' : Kn m' L' T') (he : ∀ y, 0 ≤ y → y ≤ 100000 → AN m L T y = AN m' L' T' y ∧ AD m L T y = AD m' L' T' y) :
    ∀ t, 0 < t → t + 1 < m → t + 1 < m' ∧ L' t = L t := by
  have hm := (vK_true.1 hv).1
  have hm' := (vK_true.1 hv').1
  have hA := (vK_true.1 hv).2.2.2
  have hA' := (vK_true.1 hv').2.2.2
  intro t h0 h1
  have := inner_le (p := m - 2) (q := m' - 2) (f := L) (g := L') (fun s t h k => asc_lt (T := L) (fun i hi => (hA i hi).1) h (by omega)) (fun s t h k => asc_lt (T := L') (fun i hi => (hA' i hi).1) h (by omega))
    (fun t a b => by obtain ⟨u, x, y, z⟩ := inner_of hv hv' hk he a (show t + 1 < m by omega); exact ⟨u, x, by omega, z⟩)
    (fun t a b => by obtain ⟨u, x, y, z⟩ := inner_of hv' hv hk' (fun y c d => ⟨(he y c d).1.symm, (he y c d).2.symm⟩) a (show t + 1 < m' by omega); exact ⟨u, x, by omega, z⟩) t h0 (by omega)
  exact ⟨by omega, this.2⟩

theorem like_of_same (hv : vK m L T = true) (hv' : vK m' L' T' = true) (hk : Kn m L T) (hk' : Kn m' L' T') (he : ∀ y, 0 ≤ y → y ≤ 100000 → AN m L T y = AN m' L' T' y ∧ AD m L T y = AD m' L' T' y) : Like m L T m' L' T' := by
  obtain ⟨hm, _, hB, hA⟩ := vK_true.1 hv
  obtain ⟨hm', _, hB', hA'⟩ := vK_true.1 hv'
  have I := inner_eq hv hv' hk hk' he
  have I' := inner_eq hv' hv hk' hk (fun y c d => ⟨(he y c d).1.symm, (he y c d).2.symm⟩)
  have inside : ∀ {n : Nat} {L T : Nat → Int}, vK n L T = true → (∀ j, 0 < j → j ≤ n - 2 → 0 < L j ∧ L j < 100000) := fun hv j h1 h2 => by
    obtain ⟨hn, _, hB, hs⟩ := vK_true.1 hv
    have a := hs (j - 1) (by omega)
    have b := hs j (by omega)
    have c := hB (j - 1) (by omega)
    have d := hB (j + 1) (by omega)
    rw [show j - 1 + 1 = j by omega] at a
    omega
  have z := fun y (h1 : 0 ≤ y) (h2 : y ≤ 100000) => (eqP_iff hv hv' y).1 (he y h1 h2)
  have zl := zero_left hv hv' (x := 0) (fun j h1 h2 e => by have := inside hv j h1 h2; omega) (fun j h1 h2 e => by have := inside hv' j h1 h2; omega) (z 0 (by omega) (by omega)) (z 1 (by omega) (by omega))
  have zr := zero_right hv hv' (x := 100000) (fun j h1 h2 e => by have := inside hv j h1 h2; omega) (fun j h1 h2 e => by have := inside hv' j h1 h2; omega) (z 100000 (by omega) (by omega)) (z (100000 - 1) (by omega) (by omega))
  have el := (eqP_iff hv hv' _).2 zl
  have er := (eqP_iff hv hv' _).2 zr
  have hlen : m = m' := by
    by_cases h : m = 2
    · by_cases h' : m' = 2
      · omega
      · have := (I' (m' - 2) (by omega) (by omega)).1; omega
    · have a := (I (m - 2) (by omega) (by omega)).1
      have b := (I' (m' - 2) (by omega) (by omega)).1
      omega
  -- the lines at two places by given indexes
  have key : ∀ (y : Int) (i j : Nat), ix (pA L y) m = i → ix (pA L' y) m' = j → AN m L T y = AN m' L' T' y ∧ AD m L T y = AD m' L' T' y → aN L T i y * aD L' j = aN L' T' j y * aD L i := by
    intro y i j hi hj ⟨e1, e2⟩
    have A := AN_line (y := y) hv (aD_bd hv (pA L y)).1 rfl
    have B := AN_line (y := y) hv' (aD_bd hv' (pA L' y)).1 rfl
    rw [hi] at A
    rw [hj, ← e1, ← e2] at B
    exact same_line (show 0 < AD m L T y by have := (AD_bd y hv).1; omega) A B
  have f0 := hB 0 (by omega)
  have f1 := (hA 0 (by omega)).1
  have f0' := hB' 0 (by omega)
  have f1' := (hA' 0 (by omega)).1
  have g0 := hB (m - 1) (by omega)
  have g1 := (hA (m - 2) (by omega)).1
  have g0' := hB' (m' - 1) (by omega)
  have g1' := (hA' (m' - 2) (by omega)).1
  rw [show m - 2 + 1 = m - 1 by omega] at g1
  rw [show m' - 2 + 1 = m' - 1 by omega] at g1'
  refine ⟨hlen, fun t h0 h1 => ?_, ?_, ?_⟩
  · obtain ⟨h2, h3⟩ := I t h0 h1
    refine ⟨h3, ?_⟩
    have b := hB t (by omega)
    have e := (he (L t) (by omega) (by omega)).1
    rw [at_mark hv h0 h1] at e
    rw [← h3, at_mark hv' h0 h2] at e
    exact e.symm
  · refine sLn_from (aD_pos hv' (by omega)) (-1) (key (-1) 0 0 (ix_eq hv (by omega) (.inl rfl) (.inr (by omega))) (ix_eq hv' (by omega) (.inl rfl) (.inr (by omega))) el) (key (-1 + 1) 0 0 (ix_eq hv (by omega) (.inl rfl) (.inr (by omega))) (ix_eq hv' (by omega) (.inl rfl) (.inr (by omega))) (he _ (by omega) (by omega)))
  · refine sLn_from (aD_pos hv' (by omega)) 100000 (key 100000 (m - 2) (m' - 2) (ix_eq hv (by omega) (.inr (by omega)) (.inl rfl)) (ix_eq hv' (by omega) (.inr (by omega)) (.inl rfl)) (he _ (by omega) (by omega))) (key (100000 + 1) (m - 2) (m' - 2) (ix_eq hv (by omega) (.inr (by omega)) (.inl rfl)) (ix_eq hv' (by omega) (.inr (by omega)) (.inl rfl)) er)

theorem same_of_like (hv : vK m L T = true) (hv' : vK m' L' T' = true) (h : Like m L T m' L' T') (y : Int) : AN m L T y = AN m' L' T' y ∧ AD m L T y = AD m' L' T' y := by
  obtain ⟨rfl, hi, hf, hl⟩ := h
  have hm := (vK_true.1 hv).1
  have e : ix (pA L y) m = ix (pA L' y) m := ix_congr fun j h1 h2 => by unfold pA; rw [(hi j h1 (by omega)).1]
  have d := (aD_bd hv (pA L y)).1
  have d' := (aD_bd hv' (pA L' y)).1
  have hj := ix_le (pA L y) m
  unfold AN AD
  refine red_eq d d' ?_
  rw [← e]
  generalize ix (pA L y) m = t at *
  by_cases h0 : t = 0
  · subst h0; exact sLn_to hf y
  by_cases h1 : t = m - 2
  · subst h1; exact sLn_to hl y
  obtain ⟨a1, a2⟩ := hi t (by omega) (by omega)
  obtain ⟨b1, b2⟩ := hi (t + 1) (by omega) (by omega)
  have c1 : aN L' T' t y = aN L T t y := by unfold aN; rw [a1, a2, b1, b2]
  have c2 : aD L' t = aD L t := by unfold aD; rw [a1, b1]
  rw [c1, c2]
end
end Go.Proofs.YtdlbgelidcfmiaaGreatDoor

namespace Go.Proofs.YtdlbgelidcfmiaaGreatDoor
open Go.RowKit Go.Firn

/-- Same of two valid clocks, by their times. -/
theorem same_times {n n' : Nat} {L T L' T' : Nat → Int} (hv : vK n L T = true) (hv' : vK n' L' T' = true) {m : Int} (h : IsMx (apN n L T n' L' T') (apD n L T n' L' T') (WS 0 100000 (px (pairs n L T ++ pairs n' L' T')) (n + n')) m) :
    apN n L T n' L' T' m = 0 ↔ ∀ y, 0 ≤ y → y ≤ 100000 → AN n L T y = AN n' L' T' y ∧ AD n L T y = AD n' L' T' y := by
  have hq := fun y => apD_pos hv hv' y
  have hp := fun y => apN_nonneg (n := n) (L := L) (T := T) (n' := n') (L' := L') (T' := T') y
  obtain ⟨a, ha⟩ := IsMx.exists hq 0 100000
  rw [show (0 : Int) + ((100000 : Nat) : Int) + 1 = 100000 + 1 by rfl] at ha
  obtain rfl := place_eq hv hv' ha h
  constructor
  · intro h0 y h1 h2
    exact (eqP_iff hv hv' y).2 (all_zero hp hq ha h0 y ⟨h1, by omega⟩)
  · intro he
    exact (eqP_iff hv hv' m).1 (he m ha.1.1 (by have := ha.1.2; omega))

/-- The clock without needless marks. -/
theorem same_kept {n n' : Nat} {L T L' T' : Nat → Int} (hv : vK n L T = true) (hv' : vK n' L' T' = true) :
    (∀ y, 0 ≤ y → y ≤ 100000 → AN n L T y = AN n' L' T' y ∧ AD n L T y = AD n' L' T' y) ↔ Like (kM n L T) (kL n L T) (kT n L T) (kM n' L' T') (kL n' L' T') (kT n' L' T') := by
  constructor
  · intro h
    refine like_of_same (vK_kept hv) (vK_kept hv') (kept_kn hv) (kept_kn hv') fun y h1 h2 => ?_
    rw [(kept_time hv y).1, (kept_time hv y).2, (kept_time hv' y).1, (kept_time hv' y).2]
    exact h y h1 h2
  · intro h y _ _
    have := same_of_like (vK_kept hv) (vK_kept hv') h y
    rwa [(kept_time hv y).1, (kept_time hv y).2, (kept_time hv' y).1, (kept_time hv' y).2] at this

theorem kept_first {n : Nat} {L T : Nat → Int} (hv : vK n L T = true) : kL n L T 0 = L 0 ∧ kT n L T 0 = T 0 := by
  have hn := (vK_true.1 hv).1
  have e := (kx_first (p := stK n L T) (n := n) (by omega) (stK_first hn)).2
  unfold kL kT
  rw [e]
  exact ⟨rfl, rfl⟩
theorem kept_last {n : Nat} {L T : Nat → Int} (hv : vK n L T = true) : kL n L T (kM n L T - 1) = L (n - 1) ∧ kT n L T (kM n L T - 1) = T (n - 1) := by
  have hn := (vK_true.1 hv).1
  have e : kx (stK n L T) n (kM n L T - 1) = n - 1 := kx_last (p := stK n L T) (n := n) (by omega) (stK_last hn)
  unfold kL kT
  rw [e]
  exact ⟨rfl, rfl⟩
/-- Alike and with the same ends: one list. -/
theorem like_ends {m m' : Nat} {L T L' T' : Nat → Int} (h : Like m L T m' L' T') (h0 : L 0 = L' 0 ∧ T 0 = T' 0) (h1 : L (m - 1) = L' (m' - 1) ∧ T (m - 1) = T' (m' - 1)) : m = m' ∧ ∀ t, t < m → L t = L' t ∧ T t = T' t := by
  obtain ⟨rfl, hi, _, _⟩ := h
  refine ⟨rfl, fun t ht => ?_⟩
  by_cases a : t = 0
  · subst a; exact h0
  by_cases b : t = m - 1
  · subst b; exact h1
  obtain ⟨c, d⟩ := hi t (by omega) (by omega)
  exact ⟨c.symm, d.symm⟩

end Go.Proofs.YtdlbgelidcfmiaaGreatDoor
