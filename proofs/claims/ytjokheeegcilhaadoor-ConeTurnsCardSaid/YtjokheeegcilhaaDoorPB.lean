/- Plain law of chapter 2: lists that have each hit just once. Which lists are chains: the plain law. Matchings of hits and the hits that follow them: what one search does. The fewest threads: matchings, what is left without a follower, and layers as many (Koenig, Dilworth). -/
import Derived.Test.YtjokheeegcilhaaDoorPA
namespace Go.Proofs.YtjokheeegcilhaaDoor
open Go.Firn

/-- How often x is among the first j numbers. -/
def occ1 (l : Nat → Int) : Nat → Nat → Nat
  | 0, _ => 0
  | j + 1, x => occ1 l j x + (if l j = (x : Int) then 1 else 0)
/-- How often x is in the first i lists. -/
def occ (r : Nat → Nat × (Nat → Int)) : Nat → Nat → Nat
  | 0, _ => 0
  | i + 1, x => occ r i x + occ1 (r i).2 (r i).1 x
theorem occ1_le (l : Nat → Int) (j x : Nat) : occ1 l j x ≤ j := by
  induction j with
  | zero => exact Nat.le_refl _
  | succ j ih => rw [occ1]; split <;> omega
theorem occ_le {r : Nat → Nat × (Nat → Int)} {m : Nat} (i : Nat) (h : ∀ k, k < i → (r k).1 ≤ m) (x : Nat) : occ r i x ≤ i * m := by
  induction i with
  | zero => exact Nat.zero_le _
  | succ i ih =>
    have h1 := ih fun k hk => h k (by omega)
    have h2 := occ1_le (r i).2 (r i).1 x
    have h3 := h i (by omega)
    rw [occ, Nat.succ_mul]; omega
theorem occ1_mono (l : Nat → Int) {j k : Nat} (h : j ≤ k) (x : Nat) : occ1 l j x ≤ occ1 l k x := by
  induction k with
  | zero => have : j = 0 := by omega
            subst this; exact Nat.le_refl _
  | succ k ih =>
    rcases Nat.lt_or_ge k j with e | e
    · have : j = k + 1 := by omega
      subst this; exact Nat.le_refl _
    · have := ih e; rw [occ1]; omega
theorem occ_mono (r : Nat → Nat × (Nat → Int)) {j k : Nat} (h : j ≤ k) (x : Nat) : occ r j x ≤ occ r k x := by
  induction k with
  | zero => have : j = 0 := by omega
            subst this; exact Nat.le_refl _
  | succ k ih =>
    rcases Nat.lt_or_ge k j with e | e
    · have : j = k + 1 := by omega
      subst this; exact Nat.le_refl _
    · have := ih e; rw [occ]; omega

def onceB (n N : Nat) (r : Nat → Nat × (Nat → Int)) : Bool := (List.range n).all fun x => decide (occ r N x = 1)
/-- Are lists all of a kind, and have each hit just once? -/
def areB (n : Nat) (B : Nat → (Nat → Int) → Bool) (N : Nat) (r : Nat → Nat × (Nat → Int)) : Bool :=
  decide (N ≤ 50) && ((List.range N).all fun i => B (r i).1 (r i).2) && onceB n N r
def kindK (B : Nat → (Nat → Int) → Bool) (r : Nat → Nat × (Nat → Int)) (i : Nat) : Bool := (List.range i).all fun i => B (r i).1 (r i).2
theorem kindK_zero (B : Nat → (Nat → Int) → Bool) (r : Nat → Nat × (Nat → Int)) : kindK B r 0 = true := rfl
theorem kindK_succ (B : Nat → (Nat → Int) → Bool) (r : Nat → Nat × (Nat → Int)) (i : Nat) : kindK B r (i + 1) = (kindK B r i && B (r i).1 (r i).2) := by
  unfold kindK; rw [List.range_succ, List.all_append]; simp
theorem areB_kind {n : Nat} {B : Nat → (Nat → Int) → Bool} {N : Nat} {r : Nat → Nat × (Nat → Int)} {i : Nat} (hi : i < N) (h : B (r i).1 (r i).2 = false) : areB n B N r = false := by
  have : ((List.range N).all fun i => B (r i).1 (r i).2) = false := by
    rw [List.all_eq_false]; exact ⟨i, List.mem_range.2 hi, by simp [h]⟩
  unfold areB; rw [this]; simp
theorem onceB_false {n N : Nat} {r : Nat → Nat × (Nat → Int)} {x : Nat} (hx : x < n) (h : occ r N x ≠ 1) : onceB n N r = false := by
  unfold onceB; rw [List.all_eq_false]; exact ⟨x, List.mem_range.2 hx, by simp [h]⟩
theorem areB_twice {n : Nat} {B : Nat → (Nat → Int) → Bool} {N : Nat} {r : Nat → Nat × (Nat → Int)} {i j x : Nat} (hi : i < N) (hj : j ≤ (r i).1) (hx : x < n) (h : 2 ≤ occ r i x + occ1 (r i).2 j x) : areB n B N r = false := by
  have h1 := occ1_mono (r i).2 hj x
  have h2 := occ_mono r (show i + 1 ≤ N by omega) x
  rw [occ] at h2
  unfold areB; rw [onceB_false hx (by omega)]; simp
theorem areB_done {n : Nat} {B : Nat → (Nat → Int) → Bool} {N : Nat} {r : Nat → Nat × (Nat → Int)} (h : kindK B r N = true) : areB n B N r = (decide (N ≤ 50) && onceB n N r) := by
  unfold areB
  unfold kindK at h
  rw [h]; simp

/-- The set of the hits that were seen. -/
def Seen (n : Nat) (o : Nat → Nat) (s : Nat) : Prop := s < 2 ^ n ∧ ∀ x, x < n → o x ≤ 1 ∧ s.testBit x = decide (o x = 1)
theorem Seen.zero (n : Nat) : Seen n (fun _ => 0) 0 := ⟨Nat.two_pow_pos n, fun x _ => ⟨Nat.zero_le _, by simp⟩⟩
theorem Seen.congr {n : Nat} {o o' : Nat → Nat} {s : Nat} (h : Seen n o s) (e : ∀ x, o x = o' x) : Seen n o' s := by
  have : o = o' := funext e
  rwa [← this]
theorem Seen.add {n : Nat} {o : Nat → Nat} {s y : Nat} (h : Seen n o s) (hy : y < n) (hb : s.testBit y = false) : Seen n (fun x => o x + if ((y : Nat) : Int) = (x : Int) then 1 else 0) (s ||| 2 ^ y) := by
  refine ⟨Nat.or_lt_two_pow h.1 (Nat.pow_lt_pow_right (by omega) hy), fun x hx => ?_⟩
  obtain ⟨h1, h2⟩ := h.2 x hx
  rw [Nat.testBit_or, Nat.testBit_two_pow]
  by_cases e : y = x
  · subst e
    rw [hb] at h2
    have h3 : ¬ o y = 1 := by simpa using h2.symm
    simp; omega
  · have e' : ¬ ((y : Nat) : Int) = (x : Int) := by omega
    show (o x + if ((y : Nat) : Int) = (x : Int) then 1 else 0) ≤ 1 ∧ _ = decide ((o x + if ((y : Nat) : Int) = (x : Int) then 1 else 0) = 1)
    rw [if_neg e', h2]
    simp [e]; exact h1
theorem Seen.twice {n : Nat} {o : Nat → Nat} {s y : Nat} (h : Seen n o s) (hy : y < n) (hb : s.testBit y = true) : o y = 1 := by
  obtain ⟨_, h2⟩ := h.2 y hy
  rw [hb] at h2
  exact of_decide_eq_true h2.symm
theorem Seen.done {n N : Nat} {r : Nat → Nat × (Nat → Int)} {s : Nat} (h : Seen n (occ r N) s) : onceB n N r = decide (s = 2 ^ n - 1) := by
  have hb : s = 2 ^ n - 1 ↔ ∀ x, x < n → s.testBit x = true := by
    constructor
    · intro e x hx; rw [e, Nat.testBit_two_pow_sub_one]; simpa using hx
    · intro e
      refine Nat.eq_of_testBit_eq fun i => ?_
      rw [Nat.testBit_two_pow_sub_one]
      by_cases hi : i < n
      · rw [e i hi]; simp [hi]
      · rw [bit_ge h.1 (by omega)]; simp; omega
  rw [Bool.eq_iff_iff, decide_eq_true_iff, hb]
  unfold onceB
  rw [List.all_eq_true]
  constructor
  · intro k x hx
    rw [(h.2 x hx).2]
    exact k x (List.mem_range.2 hx)
  · intro k x hx
    have := k x (List.mem_range.1 hx)
    rw [(h.2 x (List.mem_range.1 hx)).2] at this
    exact this

/-- Is there a list of more than 60 numbers, or are there more than 60 lists? -/
def wideB (N : Nat) (r : Nat → Nat × (Nat → Int)) : Bool := ((List.range N).any fun i => decide (60 < (r i).1)) || decide (60 < N)
theorem wideB_of {N i : Nat} {r : Nat → Nat × (Nat → Int)} (hi : i < N) (h : 60 < (r i).1) : wideB N r = true := by
  unfold wideB
  have : ((List.range N).any fun i => decide (60 < (r i).1)) = true := List.any_eq_true.2 ⟨i, List.mem_range.2 hi, by simpa using h⟩
  rw [this]; rfl
theorem wideB_end {N : Nat} {r : Nat → Nat × (Nat → Int)} (h : ∀ i, i < N → (r i).1 ≤ 60) : wideB N r = decide (60 < N) := by
  unfold wideB
  have : ((List.range N).any fun i => decide (60 < (r i).1)) = false := by
    rw [List.any_eq_false]; intro i hi; have := h i (List.mem_range.1 hi); simp; omega
  rw [this]; rfl
theorem wideB_false {N : Nat} {r : Nat → Nat × (Nat → Int)} (h : wideB N r = false) : N ≤ 60 ∧ ∀ i, i < N → (r i).1 ≤ 60 := by
  unfold wideB at h
  simp only [Bool.or_eq_false_iff, List.any_eq_false, decide_eq_false_iff_not, decide_eq_true_eq] at h
  refine ⟨by omega, fun i hi => ?_⟩
  have := h.1 i (List.mem_range.2 hi)
  omega

end Go.Proofs.YtjokheeegcilhaaDoor

namespace Go.Firn

/-- The number at k goes on a chain. -/
def chnAt (n : Nat) (P T : Nat → Int) (l : Nat → Int) (k : Nat) : Bool :=
  inH n (l k) && (decide (k = 0) || bf P T (l (k - 1)).toNat (l k).toNat)
def chnK (n : Nat) (P T : Nat → Int) (l : Nat → Int) (k : Nat) : Bool := (List.range k).all (chnAt n P T l)
/-- The list is a chain. -/
def chnB (n : Nat) (P T : Nat → Int) (m : Nat) (l : Nat → Int) : Bool := chnK n P T l m && decide (1 ≤ m) && decide (m ≤ 50)
theorem chnK_zero (n : Nat) (P T : Nat → Int) (l : Nat → Int) : chnK n P T l 0 = true := rfl
theorem chnK_succ (n : Nat) (P T : Nat → Int) (l : Nat → Int) (k : Nat) : chnK n P T l (k + 1) = (chnK n P T l k && chnAt n P T l k) := by
  unfold chnK
  rw [List.range_succ, List.all_append]
  simp
theorem chnK_hit {n : Nat} {P T : Nat → Int} {l : Nat → Int} {k j : Nat} (h : chnK n P T l k = true) (hj : j < k) : ∃ i : Nat, i < n ∧ l j = i := by
  unfold chnK at h
  rw [List.all_eq_true] at h
  have := h j (by simpa using hj)
  unfold chnAt at this
  simp only [Bool.and_eq_true] at this
  exact inH_nat this.1
theorem chnK_bf {n : Nat} {P T : Nat → Int} {l : Nat → Int} {k j : Nat} (h : chnK n P T l k = true) (hj : j + 1 < k) : bf P T (l j).toNat (l (j + 1)).toNat = true := by
  unfold chnK at h
  rw [List.all_eq_true] at h
  have := h (j + 1) (by simpa using hj)
  unfold chnAt at this
  simp only [Bool.and_eq_true] at this
  simpa using this.2
theorem chnB_stop {n : Nat} {P T : Nat → Int} {l : Nat → Int} {k m : Nat} (hk : k < m) (h : chnAt n P T l k = false) : chnB n P T m l = false := by
  have : chnK n P T l m = false := by
    unfold chnK
    rw [List.all_eq_false]
    exact ⟨k, by simpa using hk, by rw [h]; simp⟩
  unfold chnB
  rw [this]; rfl
theorem chnB_hit {n : Nat} {P T : Nat → Int} {m : Nat} {l : Nat → Int} (h : chnB n P T m l = true) {j : Nat} (hj : j < m) : ∃ i : Nat, i < n ∧ l j = i := by
  unfold chnB at h
  simp only [Bool.and_eq_true] at h
  exact chnK_hit h.1.1 hj

end Go.Firn

namespace Go.Firn

/-- nx and pv are a matching: each the other's inverse; below 0: none. -/
structure Mt (n : Nat) (B : Nat → Nat → Bool) (nx pv : Nat → Int) : Prop where
  fwd : ∀ a, a < n → 0 ≤ nx a → ∃ c, c < n ∧ nx a = (c : Nat) ∧ pv c = (a : Nat) ∧ B a c = true
  bwd : ∀ c, c < n → 0 ≤ pv c → ∃ a, a < n ∧ pv c = (a : Nat) ∧ nx a = (c : Nat)

/-- All of R have one that they follow, and what follows that one is of R too. -/
def Shut (n : Nat) (B : Nat → Nat → Bool) (pv : Nat → Int) (R : Nat → Prop) : Prop :=
  ∀ k, k < n → R k → ∃ a, a < n ∧ pv k = (a : Nat) ∧ ∀ c, c < n → B a c = true → R c

/-- A search from i that found one. -/
structure Aug (n : Nat) (B : Nat → Nat → Bool) (nx pv : Nat → Int) (S : Nat → Bool) (i : Nat) (nx' pv' : Nat → Int) : Prop where
  a : ∀ x, x < n → (0 ≤ nx' x ↔ (0 ≤ nx x ∨ x = i))
  b : ∀ x, x < n → 0 ≤ nx' x → ∃ c, c < n ∧ nx' x = (c : Nat) ∧ pv' c = (x : Nat) ∧ B x c = true
  c : ∀ k, k < n → S k = true → pv' k = pv k
  d : ∀ k, k < n → 0 ≤ pv' k → ∃ x, x < n ∧ pv' k = (x : Nat) ∧ (nx' x = (k : Nat) ∨ (x = i ∧ nx i = (k : Nat)))
  e : ∃ c, c < n ∧ S c = false ∧ nx' i = (c : Nat)
  f : ∀ x, x < n → x ≠ i → (nx x < 0 ∨ ∃ c, S c = true ∧ nx x = (c : Nat)) → nx' x = nx x
  g : ∀ R, Shut n B pv R → ∀ k, k < n → R k → pv' k = pv k

/-- A search from i that found none. -/
structure Non (n : Nat) (B : Nat → Nat → Bool) (pv : Nat → Int) (S S' : Nat → Bool) (i : Nat) : Prop where
  sub : ∀ k, S k = true → S' k = true
  all : ∀ k, k < n → B i k = true → S' k = true
  shut : ∀ k, k < n → S' k = true → S k = false → ∃ a, a < n ∧ pv k = (a : Nat) ∧ ∀ c, c < n → B a c = true → S' c = true

/-- A search that goes on: the first hits of a list have been tried. -/
structure Non1 (n : Nat) (B : Nat → Nat → Bool) (pv : Nat → Int) (S S' : Nat → Bool) : Prop where
  sub : ∀ k, S k = true → S' k = true
  shut : ∀ k, k < n → S' k = true → S k = false → ∃ a, a < n ∧ pv k = (a : Nat) ∧ ∀ c, c < n → B a c = true → S' c = true

theorem Non1.refl {n : Nat} {B : Nat → Nat → Bool} {pv : Nat → Int} (S : Nat → Bool) : Non1 n B pv S S :=
  ⟨fun _ h => h, fun k _ h h' => by rw [h] at h'; cases h'⟩
theorem Non1.non {n : Nat} {B : Nat → Nat → Bool} {pv : Nat → Int} {S S' : Nat → Bool} {i : Nat} (h : Non1 n B pv S S') (all : ∀ k, k < n → B i k = true → S' k = true) : Non n B pv S S' i := ⟨h.sub, all, h.shut⟩

/-- One more was tried, and the search from what it follows found none. -/
theorem Non1.step {n : Nat} {B : Nat → Nat → Bool} {pv : Nat → Int} {S S1 S2 : Nat → Bool} {k a : Nat} (h : Non1 n B pv S S1) (ha : a < n) (hp : pv k = (a : Nat))
    (h2 : Non n B pv (fun x => S1 x || decide (x = k)) S2 a) : Non1 n B pv S S2 := by
  refine ⟨fun x hx => h2.sub x (by rw [h.sub x hx]; rfl), fun x hx h3 h4 => ?_⟩
  by_cases e : x = k
  · subst e
    exact ⟨a, ha, hp, h2.all⟩
  · cases h5 : S1 x with
    | true =>
      obtain ⟨y, hy, hpy, hc⟩ := h.shut x hx h5 h4
      exact ⟨y, hy, hpy, fun c hc1 hc2 => h2.sub c (by rw [hc c hc1 hc2]; rfl)⟩
    | false => exact h2.shut x hx h3 (by rw [h5]; simp [e])

/-- The pair (i, k) is laid. -/
def lay2 (f : Nat → Int) (i : Nat) (v : Int) (x : Nat) : Int := if x = i then v else f x
theorem lay2_same (f : Nat → Int) (i : Nat) (v : Int) : lay2 f i v i = v := if_pos rfl
theorem lay2_ne (f : Nat → Int) {i x : Nat} (v : Int) (h : x ≠ i) : lay2 f i v x = f x := if_neg h

/-- The first that was not tried follows none: it is taken. -/
theorem Aug.direct {n : Nat} {B : Nat → Nat → Bool} {nx pv : Nat → Int} {S : Nat → Bool} {i k : Nat} (M : Mt n B nx pv) (hi : i < n) (hk : k < n) (hb : B i k = true) (hS : S k = false) (hp : pv k < 0) :
    Aug n B nx pv S i (lay2 nx i k) (lay2 pv k i) := by
  refine ⟨fun x hx => ?_, fun x hx h => ?_, fun c hc h => ?_, fun c hc h => ?_, ⟨k, hk, hS, lay2_same _ _ _⟩, fun x hx h _ => lay2_ne _ _ h, fun R hR c hc h => ?_⟩
  · by_cases e : x = i
    · subst e; rw [lay2_same]; constructor
      · intro _; exact .inr rfl
      · intro _; omega
    · rw [lay2_ne _ _ e]; constructor
      · exact .inl
      · rintro (h | h)
        · exact h
        · exact absurd h e
  · by_cases e : x = i
    · subst e
      exact ⟨k, hk, lay2_same _ _ _, lay2_same _ _ _, hb⟩
    · rw [lay2_ne _ _ e] at h ⊢
      obtain ⟨c, h1, h2, h3, h4⟩ := M.fwd x hx h
      have : c ≠ k := fun e => by subst e; omega
      exact ⟨c, h1, h2, by rw [lay2_ne _ _ this]; exact h3, h4⟩
  · exact lay2_ne _ _ (fun e => by subst e; rw [h] at hS; cases hS)
  · by_cases e : c = k
    · subst e
      exact ⟨i, hi, lay2_same _ _ _, .inl (lay2_same _ _ _)⟩
    · rw [lay2_ne _ _ e] at h ⊢
      obtain ⟨x, h1, h2, h3⟩ := M.bwd c hc h
      refine ⟨x, h1, h2, ?_⟩
      by_cases ex : x = i
      · subst ex; exact .inr ⟨rfl, h3⟩
      · rw [lay2_ne _ _ ex]; exact .inl h3
  · refine lay2_ne _ _ (fun e => ?_)
    subst e
    obtain ⟨a, _, h2, _⟩ := hR c hc h
    omega

/-- The one that it follows found another one: it is taken from it. -/
theorem Aug.through {n : Nat} {B : Nat → Nat → Bool} {nx pv nx' pv' : Nat → Int} {S S1 : Nat → Bool} {i k i' : Nat} (M : Mt n B nx pv) (hi : i < n) (hk : k < n) (hb : B i k = true)
    (hin : nx i < 0 ∨ ∃ c, S c = true ∧ nx i = (c : Nat)) (sub : ∀ x, S x = true → S1 x = true) (hS : S1 k = false) (hp : pv k = (i' : Nat)) (hi' : i' < n)
    (A : Aug n B nx pv (fun x => S1 x || decide (x = k)) i' nx' pv') :
    Aug n B nx pv S i (lay2 nx' i k) (lay2 pv' k i) := by
  have nk : nx i' = (k : Nat) := by
    obtain ⟨a, h1, h2, h3⟩ := M.bwd k hk (by omega)
    have : a = i' := by omega
    subst this; exact h3
  have hS0 : S k = false := by
    cases h : S k with
    | false => rfl
    | true => rw [sub k h] at hS; cases hS
  have ne : i ≠ i' := fun e => by
    subst e
    rcases hin with h | ⟨c, h1, h2⟩
    · omega
    · have : c = k := by omega
      subst this; rw [h1] at hS0; cases hS0
  have pk : pv' k = (i' : Nat) := by rw [A.c k hk (by simp), hp]
  obtain ⟨c0, hc0, hcS, hc1⟩ := A.e
  have c0k : c0 ≠ k := fun e => by subst e; simp at hcS
  have ni : nx' i = nx i := A.f i hi ne (by
    rcases hin with h | ⟨c, h1, h2⟩
    · exact .inl h
    · exact .inr ⟨c, by rw [sub c h1]; rfl, h2⟩)
  refine ⟨fun x hx => ?_, fun x hx h => ?_, fun c hc h => ?_, fun c hc h => ?_, ⟨k, hk, hS0, lay2_same _ _ _⟩, fun x hx h h2 => ?_, fun R hR c hc h => ?_⟩
  · by_cases e : x = i
    · subst e; rw [lay2_same]; constructor
      · intro _; exact .inr rfl
      · intro _; omega
    · rw [lay2_ne _ _ e, A.a x hx]; constructor
      · rintro (h | h)
        · exact .inl h
        · subst h; left; omega
      · rintro (h | h)
        · exact .inl h
        · exact absurd h e
  · by_cases e : x = i
    · subst e
      exact ⟨k, hk, lay2_same _ _ _, lay2_same _ _ _, hb⟩
    · rw [lay2_ne _ _ e] at h ⊢
      obtain ⟨c, h1, h2, h3, h4⟩ := A.b x hx h
      have : c ≠ k := fun e2 => by
        subst e2
        have : x = i' := by omega
        subst this; omega
      exact ⟨c, h1, h2, by rw [lay2_ne _ _ this]; exact h3, h4⟩
  · have : c ≠ k := fun e => by subst e; rw [h] at hS0; cases hS0
    rw [lay2_ne _ _ this]
    exact A.c c hc (by rw [sub c h]; rfl)
  · by_cases e : c = k
    · subst e
      exact ⟨i, hi, lay2_same _ _ _, .inl (lay2_same _ _ _)⟩
    · rw [lay2_ne _ _ e] at h ⊢
      obtain ⟨x, h1, h2, h3⟩ := A.d c hc h
      refine ⟨x, h1, h2, ?_⟩
      rcases h3 with h3 | ⟨h3, h4⟩
      · by_cases ex : x = i
        · subst ex; right; exact ⟨rfl, by rw [← ni]; exact h3⟩
        · left; rw [lay2_ne _ _ ex]; exact h3
      · exact absurd (by omega : c = k) e
  · have : x ≠ i' := fun e => by
      subst e
      rcases h2 with h2 | ⟨c, h3, h4⟩
      · omega
      · have : c = k := by omega
        subst this; rw [h3] at hS0; cases hS0
    rw [lay2_ne _ _ h]
    exact A.f x hx this (by
      rcases h2 with h2 | ⟨c, h3, h4⟩
      · exact .inl h2
      · exact .inr ⟨c, by rw [sub c h3]; rfl, h4⟩)
  · have : c ≠ k := fun e => by
      subst e
      obtain ⟨a, h1, h2, h3⟩ := hR c hc h
      have : a = i' := by omega
      subst this
      obtain ⟨c', h4, h5, h6, h7⟩ := A.b a hi' (by omega)
      have : c' = c0 := by omega
      subst this
      have h8 := A.g R hR c' hc0 (h3 c' hc0 h7)
      obtain ⟨a2, h9, h10, h11⟩ := M.bwd c' hc0 (by omega)
      have : a2 = a := by omega
      subst this; omega
    rw [lay2_ne _ _ this]
    exact A.g R hR c hc h

/-- What a search from one without a follower gives is a matching again. -/
theorem Aug.mt {n : Nat} {B : Nat → Nat → Bool} {nx pv nx' pv' : Nat → Int} {S : Nat → Bool} {i : Nat} (A : Aug n B nx pv S i nx' pv') (hi : nx i < 0) : Mt n B nx' pv' :=
  ⟨A.b, fun c hc h => by
    obtain ⟨x, h1, h2, h3⟩ := A.d c hc h
    rcases h3 with h3 | ⟨_, h3⟩
    · exact ⟨x, h1, h2, h3⟩
    · omega⟩

end Go.Firn

namespace Go.Firn

/-! ## Counting -/

theorem cnt_one_less {q : Nat → Bool} {m y : Nat} (hy : y < m) (hq : q y = true) : cnt q m = cnt (fun x => q x && !decide (x = y)) m + 1 := by
  have := cnt_split2 m q (fun x => decide (x = y)) (fun i _ h => by have : i = y := of_decide_eq_true h; subst this; exact hq)
  have one : cnt (fun x => decide (x = y)) m = 1 := by
    have : ∀ k, cnt (fun x => decide (x = y)) k = if y < k then 1 else 0 := fun k => by
      induction k with
      | zero => simp [cnt]
      | succ k ih =>
        rw [cnt, ih]
        by_cases e : k = y
        · subst e; simp
        · have : (y < k) = (y < k + 1) := by apply propext; omega
          simp [e, this]
    rw [this, if_pos hy]
  omega

/-- An injection. -/
theorem cnt_inj (f : Nat → Nat) : ∀ (n m : Nat) (p q : Nat → Bool), (∀ i, i < n → p i = true → f i < m ∧ q (f i) = true) → (∀ i, i < n → p i = true → ∀ j, j < n → p j = true → f i = f j → i = j) → cnt p n ≤ cnt q m := by
  intro n
  induction n with
  | zero => intro m p q _ _; exact Nat.zero_le _
  | succ n ih =>
    intro m p q h hi
    rw [cnt]
    by_cases hp : p n = true
    · obtain ⟨h1, h2⟩ := h n (by omega) hp
      rw [if_pos hp, cnt_one_less h1 h2]
      have := ih m p (fun x => q x && !decide (x = f n)) (fun i hin hpi => by
        obtain ⟨k1, k2⟩ := h i (by omega) hpi
        refine ⟨k1, ?_⟩
        have : f i ≠ f n := fun e => by have := hi i (by omega) hpi n (by omega) hp e; omega
        simp [k2, this]) (fun i hin hpi j hjn hpj e => hi i (by omega) hpi j (by omega) hpj e)
      omega
    · rw [if_neg hp]
      exact ih m p q (fun i hin => h i (by omega)) (fun i hin hpi j hjn hpj e => hi i (by omega) hpi j (by omega) hpj e)
theorem cnt_true (n : Nat) : cnt (fun _ => true) n = n := by
  induction n with
  | zero => rfl
  | succ n ih => rw [cnt, ih]; simp
theorem cnt_mono {p q : Nat → Bool} {n : Nat} (h : ∀ i, i < n → p i = true → q i = true) : cnt p n ≤ cnt q n := by
  have := cnt_inj id n n p q (fun i hi hp => ⟨hi, h i hi hp⟩) (fun _ _ _ _ _ _ e => e)
  exact this

/-! ## The searches one by one -/

/-- Behind the searches from the first i. -/
def Kuhn (n : Nat) (B : Nat → Nat → Bool) (nx pv : Nat → Int) (i : Nat) : Prop :=
  Mt n B nx pv ∧ (∀ a, a < n → i ≤ a → nx a < 0) ∧ ∃ R : Nat → Prop, Shut n B pv R ∧ ∀ a, a < n → a < i → nx a < 0 → ∀ c, c < n → B a c = true → R c
theorem Kuhn.zero (n : Nat) (B : Nat → Nat → Bool) : Kuhn n B (fun _ => -1) (fun _ => -1) 0 :=
  ⟨⟨fun a _ h => absurd (show (0 : Int) ≤ -1 from h) (by decide), fun a _ h => absurd (show (0 : Int) ≤ -1 from h) (by decide)⟩, fun a _ _ => (show (-1 : Int) < 0 by decide), fun _ => False, fun k _ h => h.elim, fun a _ h => by omega⟩
theorem Kuhn.aug {n : Nat} {B : Nat → Nat → Bool} {nx pv nx' pv' : Nat → Int} {S : Nat → Bool} {i : Nat} (K : Kuhn n B nx pv i) (hi : i < n) (A : Aug n B nx pv S i nx' pv') : Kuhn n B nx' pv' (i + 1) := by
  obtain ⟨M, hf, R, hR, ha⟩ := K
  refine ⟨A.mt (hf i hi (Nat.le_refl _)), fun a han hia => ?_, R, fun k hk hr => ?_, fun a han hai h => ?_⟩
  · have h1 := hf a han (by omega)
    have h2 := A.a a han
    rcases Int.lt_or_le (nx' a) 0 with h | h
    · exact h
    · rcases h2.1 h with h3 | h3 <;> omega
  · obtain ⟨a, h1, h2, h3⟩ := hR k hk hr
    exact ⟨a, h1, by rw [A.g R hR k hk hr]; exact h2, h3⟩
  · have h2 := A.a a han
    have h3 : a ≠ i := fun e => by have := h2.2 (.inr e); omega
    have h4 : nx a < 0 := by
      rcases Int.lt_or_le (nx a) 0 with h | h
      · exact h
      · have := h2.2 (.inl h); omega
    exact ha a han (by omega) h4
theorem Kuhn.non {n : Nat} {B : Nat → Nat → Bool} {nx pv : Nat → Int} {S S' : Nat → Bool} {i : Nat} (K : Kuhn n B nx pv i) (hS : ∀ k, S k = false) (N : Non n B pv S S' i) : Kuhn n B nx pv (i + 1) := by
  obtain ⟨M, hf, R, hR, ha⟩ := K
  refine ⟨M, fun a han hia => hf a han (by omega), fun k => R k ∨ S' k = true, fun k hk hr => ?_, fun a han hai h c hc hb => ?_⟩
  · rcases hr with hr | hr
    · obtain ⟨a, h1, h2, h3⟩ := hR k hk hr
      exact ⟨a, h1, h2, fun c hc hb => .inl (h3 c hc hb)⟩
    · obtain ⟨a, h1, h2, h3⟩ := N.shut k hk hr (hS k)
      exact ⟨a, h1, h2, fun c hc hb => .inr (h3 c hc hb)⟩
  · by_cases e : a = i
    · subst e; exact .inr (N.all c hc hb)
    · exact .inl (ha a han (by omega) h c hc hb)

/-- Those that have none that they follow are as many as those that none follows. -/
theorem Mt.ends {n : Nat} {B : Nat → Nat → Bool} {nx pv : Nat → Int} (M : Mt n B nx pv) : cnt (fun x => decide (pv x < 0)) n = cnt (fun x => decide (nx x < 0)) n := by
  have h1 := cnt_split2 n (fun _ => true) (fun x => decide (pv x < 0)) (fun _ _ _ => rfl)
  have h2 := cnt_split2 n (fun _ => true) (fun x => decide (nx x < 0)) (fun _ _ _ => rfl)
  have h3 : cnt (fun i => true && !decide (pv i < 0)) n ≤ cnt (fun i => true && !decide (nx i < 0)) n := cnt_inj (fun x => (pv x).toNat) n n _ _ (fun i hi hp => by
    simp only [Bool.true_and, Bool.not_eq_true', decide_eq_false_iff_not] at hp ⊢
    obtain ⟨a, k1, k2, k3⟩ := M.bwd i hi (by omega)
    rw [k2, Int.toNat_natCast]
    exact ⟨k1, by omega⟩) (fun i hi hp j hj hq e => by
    simp only [Bool.true_and, Bool.not_eq_true', decide_eq_false_iff_not] at hp hq
    obtain ⟨a, k1, k2, k3⟩ := M.bwd i hi (by omega)
    obtain ⟨b, l1, l2, l3⟩ := M.bwd j hj (by omega)
    rw [k2, l2, Int.toNat_natCast, Int.toNat_natCast] at e
    subst e; omega)
  have h4 : cnt (fun i => true && !decide (nx i < 0)) n ≤ cnt (fun i => true && !decide (pv i < 0)) n := cnt_inj (fun x => (nx x).toNat) n n _ _ (fun i hi hp => by
    simp only [Bool.true_and, Bool.not_eq_true', decide_eq_false_iff_not] at hp ⊢
    obtain ⟨a, k1, k2, k3, _⟩ := M.fwd i hi (by omega)
    rw [k2, Int.toNat_natCast]
    exact ⟨k1, by omega⟩) (fun i hi hp j hj hq e => by
    simp only [Bool.true_and, Bool.not_eq_true', decide_eq_false_iff_not] at hp hq
    obtain ⟨a, k1, k2, k3, _⟩ := M.fwd i hi (by omega)
    obtain ⟨b, l1, l2, l3, _⟩ := M.fwd j hj (by omega)
    rw [k2, l2, Int.toNat_natCast, Int.toNat_natCast] at e
    subst e; omega)
  omega

/-- There is a layer with as many hits as have none that they follow. -/
theorem Kuhn.layer {n : Nat} {P T nx pv : Nat → Int} (K : Kuhn n (bf P T) nx pv n) :
    ∃ p : Nat → Bool, Free n (cmpd P T) p ∧ cnt (fun x => decide (pv x < 0)) n ≤ cnt p n := by
  obtain ⟨M, _, R, hR, ha⟩ := K
  classical
  let r : Nat → Bool := fun x => decide (R x)
  let l : Nat → Bool := fun x => decide (nx x < 0) || decide (∃ k, k < n ∧ R k ∧ pv k = (x : Nat))
  have closed : ∀ x, x < n → l x = true → ∀ y, y < n → bf P T x y = true → R y := fun x hx hl y hy hb => by
    simp only [l, Bool.or_eq_true, decide_eq_true_eq] at hl
    rcases hl with hl | ⟨k, hk, hr, hp⟩
    · exact ha x hx hx hl y hy hb
    · obtain ⟨a, h1, h2, h3⟩ := hR k hk hr
      have : a = x := by omega
      subst this; exact h3 y hy hb
  refine ⟨fun x => l x && !r x, fun x hx hpx y hy hpy => ?_, ?_⟩
  · simp only [Bool.and_eq_true, Bool.not_eq_true', r, decide_eq_false_iff_not] at hpx hpy
    unfold cmpd
    rw [Bool.or_eq_false_iff]
    constructor
    · cases h : bf P T x y with
      | false => rfl
      | true => exact absurd (closed x hx hpx.1 y hy h) hpy.2
    · cases h : bf P T y x with
      | false => rfl
      | true => exact absurd (closed y hy hpy.1 x hx h) hpx.2
  · rw [M.ends]
    have h1 := cnt_split2 n l (fun x => decide (nx x < 0)) (fun i _ h => by simp only [l, Bool.or_eq_true]; exact .inl h)
    have h2 : cnt r n ≤ cnt (fun i => l i && !decide (nx i < 0)) n := cnt_inj (fun x => (pv x).toNat) n n _ _ (fun i hi hp => by
      have hp' : R i := of_decide_eq_true hp
      obtain ⟨a, k1, k2, _⟩ := hR i hi hp'
      obtain ⟨b, l1, l2, l3⟩ := M.bwd i hi (by omega)
      have : b = a := by omega
      subst this
      rw [k2, Int.toNat_natCast]
      refine ⟨k1, ?_⟩
      have h5 : ¬ nx b < 0 := by omega
      simp only [l, Bool.and_eq_true, Bool.or_eq_true, decide_eq_true_eq, Bool.not_eq_true', decide_eq_false_iff_not]
      exact ⟨.inr ⟨i, hi, hp', k2⟩, h5⟩) (fun i hi hp j hj hq e => by
      obtain ⟨a, k1, k2, _⟩ := hR i hi (of_decide_eq_true hp)
      obtain ⟨b, l1, l2, _⟩ := hR j hj (of_decide_eq_true hq)
      obtain ⟨a', m1, m2, m3⟩ := M.bwd i hi (by omega)
      obtain ⟨b', o1, o2, o3⟩ := M.bwd j hj (by omega)
      rw [k2, l2, Int.toNat_natCast, Int.toNat_natCast] at e
      subst e
      have : a' = b' := by omega
      subst this; omega)
    have h3 := cnt_split2 n l (fun x => l x && r x) (fun i _ h => by simp only [Bool.and_eq_true] at h; exact h.1)
    have h4 : cnt (fun x => l x && r x) n ≤ cnt r n := cnt_mono (fun i _ h => by simp only [Bool.and_eq_true] at h; exact h.2)
    have h5 : cnt (fun i => l i && !(l i && r i)) n ≤ cnt (fun x => l x && !r x) n := cnt_mono (fun i _ h => by
      simp only [Bool.and_eq_true, Bool.not_eq_true', Bool.and_eq_false_iff] at h ⊢
      refine ⟨h.1, ?_⟩
      have h1 := h.1
      have h2 := h.2
      rw [h1] at h2
      simpa using h2)
    omega

/-! ## The longest layer -/

theorem down_best {n : Nat} {L : Nat → Nat} : ∀ (c r best : Nat), cnt best.testBit n ≤ cnt (down n L c r best).testBit n ∧ (∀ t, t < c → frees n L (r - t) = true → cnt (r - t).testBit n ≤ cnt (down n L c r best).testBit n) ∧
    (down n L c r best = best ∨ frees n L (down n L c r best) = true) := by
  intro c
  induction c with
  | zero => intro r best; exact ⟨Nat.le_refl _, fun t ht => by omega, .inl rfl⟩
  | succ c ih =>
    intro r best
    obtain ⟨h1, h2, h3⟩ := ih (r - 1) (pick n L r best)
    rw [down]
    have p1 : cnt best.testBit n ≤ cnt (pick n L r best).testBit n := by
      unfold pick; split
      · rename_i h; omega
      · exact Nat.le_refl _
    have p2 : frees n L r = true → cnt r.testBit n ≤ cnt (pick n L r best).testBit n := fun hf => by
      unfold pick; split
      · exact Nat.le_refl _
      · rename_i h
        rcases Nat.lt_or_ge (cnt best.testBit n) (cnt r.testBit n) with k | k
        · exact absurd ⟨hf, k⟩ h
        · exact k
    refine ⟨Nat.le_trans p1 h1, fun t ht hf => ?_, ?_⟩
    · cases t with
      | zero => exact Nat.le_trans (p2 (by simpa using hf)) h1
      | succ t =>
        rw [show r - (t + 1) = r - 1 - t by omega] at hf ⊢
        exact h2 t (by omega) hf
    · rcases h3 with h3 | h3
      · rw [h3]
        unfold pick; split
        · rename_i h; exact .inr h.1
        · exact .inl rfl
      · exact .inr h3
theorem mk_cnt (p : Nat → Bool) (n : Nat) : cnt (mk p n).testBit n = cnt p n := cnt_congr fun i hi => by rw [mk_bit]; simp [hi]

/-- The longest layer has no two that know of each other, and as many hits as any such set at least. -/
theorem layL_best {n : Nat} {P T : Nat → Int} :
    (∃ p : Nat → Bool, Free n (cmpd P T) p ∧ (layL n P T).length = cnt p n) ∧ ∀ p : Nat → Bool, Free n (cmpd P T) p → cnt p n ≤ (layL n P T).length := by
  have hk := known n P T
  have hd := down_best (n := n) (L := knowM n P T) (2 ^ n) (2 ^ n - 1) 0
  have hl : (layL n P T).length = cnt (layR n P T).testBit n := by
    rw [← lay_list, els_length, cnt_rev (layR n P T).testBit]
  constructor
  · refine ⟨fun a => (layR n P T).testBit (n - 1 - a), ?_, by rw [hl, cnt_rev (layR n P T).testBit]⟩
    rcases hd.2.2 with h | h
    · have : layR n P T = 0 := h
      intro i _ hp
      rw [this] at hp; simp at hp
    · exact hk.free.1 h
  · intro p hp
    have hm : mk (fun a => p (n - 1 - a)) n < 2 ^ n := mk_lt _ _
    have hf : frees n (knowM n P T) (mk (fun a => p (n - 1 - a)) n) = true := hk.free.2 (fun i hi h1 j hj h2 => by
      simp only [mk_bit] at h1 h2
      simp only [Bool.and_eq_true] at h1 h2
      rw [show n - 1 - (n - 1 - i) = i by omega] at h1
      rw [show n - 1 - (n - 1 - j) = j by omega] at h2
      exact hp i hi h1.2 j hj h2.2)
    have := hd.2.1 (2 ^ n - 1 - mk (fun a => p (n - 1 - a)) n) (by have := Nat.two_pow_pos n; omega)
    rw [show 2 ^ n - 1 - (2 ^ n - 1 - mk (fun a => p (n - 1 - a)) n) = mk (fun a => p (n - 1 - a)) n by omega] at this
    have := this hf
    rw [mk_cnt, cnt_rev p] at this
    rw [hl]
    exact this

end Go.Firn
