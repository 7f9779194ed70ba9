/- The axis has the least width, and is a line: the plain law. -/
import Derived.Test.YtbhndfnfohoidaaP13
import Derived.Test.YtbhndfnfohoidaaW15
namespace Go.Proofs.Ytbhndfnfohoidaa

structure Ln where
  A : Int
  B : Int
  D : Int
def mkL (a b d : Int) : Ln := ⟨mkA a b d, mkB a b d, mkD a b d⟩
def thL (X Y : Nat → Int) (i k : Nat) : Ln := ⟨thA (X i) (Y i) (X k) (Y k), thB (X i) (Y i) (X k) (Y k), thD (X i) (Y i) (X k) (Y k)⟩
/-- The line through the middle of two points of one X. -/
def beL (n : Nat) (X Y : Nat → Int) (x0 y0 y1 : Int) : Ln :=
  mkL (2 * (bsd X Y x0 (ab (y0 - y1)) (y0 + y1) n).N) ((y0 + y1) * (bsd X Y x0 (ab (y0 - y1)) (y0 + y1) n).D - 2 * (bsd X Y x0 (ab (y0 - y1)) (y0 + y1) n).N * x0) (2 * (bsd X Y x0 (ab (y0 - y1)) (y0 + y1) n).D)
def triL (X Y : Nat → Int) (a b c : Nat) : Ln :=
  mkL (2 * (thL X Y a c).A) (2 * (thL X Y a c).B + rs (X b) (Y b) (thL X Y a c).A (thL X Y a c).B (thL X Y a c).D) (2 * (thL X Y a c).D)
def axL (n : Nat) (X Y : Nat → Int) : List Nat → Ln
  | [a, b] => beL n X Y (X a) (Y a) (Y b)
  | [a, b, c] => triL X Y a b c
  | _ => thL X Y 0 1

theorem bsd_at {n : Nat} {X Y : Nat → Int} (V : VP n X Y) {x0 wd mid : Int} (h0 : -100 ≤ x0 ∧ x0 ≤ 100) (hw : 0 ≤ wd ∧ wd ≤ 2000) (hm : -2000 ≤ mid ∧ mid ≤ 2000) :
    ∃ p, p < n ∧ X p ≠ x0 ∧ (bsd X Y x0 wd mid n).N * bd x0 (X p) = bn x0 wd mid (X p) (Y p) * (bsd X Y x0 wd mid n).D ∧ (0 < (bsd X Y x0 wd mid n).D ∧ (bsd X Y x0 wd mid n).D ≤ 400) ∧ (-6000 ≤ (bsd X Y x0 wd mid n).N ∧ (bsd X Y x0 wd mid n).N ≤ 6000) ∧
      ∀ i, i < n → X i ≠ x0 → bn x0 wd mid (X i) (Y i) * bd x0 (X p) ≤ bn x0 wd mid (X p) (Y p) * bd x0 (X i) := by
  rcases bsd_spec X Y x0 wd mid n with ⟨_, h⟩ | ⟨p, hp, hne, e, h⟩
  · obtain ⟨i, hi, hx⟩ := V.far
    have := h i hi
    have := h 0 (by have := V.two; omega)
    omega
  · have b := bn_bd h0 (V.ok p hp) hw hm
    have pp := bd_pos hne
    rw [e]
    refine ⟨p, hp, hne, red_mul _ _, ⟨rD_pos _ pp, ?_⟩, ?_, h⟩
    · have := rD_le (bn x0 wd mid (X p) (Y p)) pp; simp only; omega
    · have := rN_abs (n := bn x0 wd mid (X p) (Y p)) pp; simp only; omega

theorem beside_ok {n : Nat} {X Y : Nat → Int} (V : VP n X Y) {a b : Nat} (ha : a < n) (hb : b < n) (hx : X a = X b) (T : Top n X Y (ab (Y a - Y b)) 2) :
    (rN (maxA X Y (beL n X Y (X a) (Y a) (Y b)).A (beL n X Y (X a) (Y a) (Y b)).B (beL n X Y (X a) (Y a) (Y b)).D n) (beL n X Y (X a) (Y a) (Y b)).D = rN (ab (Y a - Y b)) 2 ∧
     rD (maxA X Y (beL n X Y (X a) (Y a) (Y b)).A (beL n X Y (X a) (Y a) (Y b)).B (beL n X Y (X a) (Y a) (Y b)).D n) (beL n X Y (X a) (Y a) (Y b)).D = rD (ab (Y a - Y b)) 2) ∧
    InL (beL n X Y (X a) (Y a) (Y b)).A (beL n X Y (X a) (Y a) (Y b)).B (beL n X Y (X a) (Y a) (Y b)).D := by
  obtain ⟨⟨a1, a2⟩, a3, a4⟩ := V.ok a ha
  obtain ⟨_, b3, b4⟩ := V.ok b hb
  have hw := ab_cases (Y a - Y b)
  have h0 := ab_nonneg (Y a - Y b)
  obtain ⟨p, hp, np, he, hE, hN, hm⟩ := bsd_at V (x0 := X a) (wd := ab (Y a - Y b)) (mid := Y a + Y b) ⟨a1, a2⟩ ⟨h0, by omega⟩ ⟨by omega, by omega⟩
  unfold beL mkL
  simp only
  generalize (bsd X Y (X a) (ab (Y a - Y b)) (Y a + Y b) n).N = N at *
  generalize (bsd X Y (X a) (ab (Y a - Y b)) (Y a + Y b) n).D = E at *
  have fit : ∀ q, q < n → ab (rs (X q) (Y q) (2 * N) ((Y a + Y b) * E - 2 * N * X a) (2 * E)) ≤ ab (Y a - Y b) * E := fun q hq => by
    rcases hw with ⟨k, e⟩ | ⟨k, e⟩
    · rw [e] at T he hm ⊢
      exact beside_fit ha hb hx T hE.1 hp np he hm hq
    · have e' : ab (Y a - Y b) = Y b - Y a := by omega
      rw [e'] at T he hm ⊢
      rw [show Y a + Y b = Y b + Y a from Int.add_comm _ _] at he hm ⊢
      rw [hx] at np he hm ⊢
      exact beside_fit hb ha hx.symm T hE.1 hp np he hm hq
  have ea : ab (rs (X a) (Y a) (2 * N) ((Y a + Y b) * E - 2 * N * X a) (2 * E)) = ab (Y a - Y b) * E := by
    have : rs (X a) (Y a) (2 * N) ((Y a + Y b) * E - 2 * N * X a) (2 * E) = (Y a - Y b) * E := by unfold rs; grind
    rw [this, ab_pos hE.1]
  obtain ⟨w1, w2⟩ := made_width (n := n) (show 0 < 2 * E by omega) fit ⟨a, ha, ea⟩
  have re := red_eq (n := ab (Y a - Y b) * E) (d := 2 * E) (n' := ab (Y a - Y b)) (d' := 2) (by omega) (by omega) (by grind)
  have m1 := mul_bd (a := Y a + Y b) (b := E) (A := 2000) (B := 400) (by omega) (by omega) (by omega) (by omega)
  have m2 := mul_bd (a := 2 * N) (b := X a) (A := 12000) (B := 100) (by omega) (by omega) (by omega) (by omega)
  obtain ⟨q1, q2, q3⟩ := mk_abs (2 * N) ((Y a + Y b) * E - 2 * N * X a) (show 2 * E ≠ 0 by omega)
  have q4 := mkD_pos (2 * N) ((Y a + Y b) * E - 2 * N * X a) (show 2 * E ≠ 0 by omega)
  exact ⟨⟨w1.trans re.1, w2.trans re.2⟩, by unfold InL; omega⟩

/-- No witness: two points alone. -/
theorem wits_nil {n : Nat} {X Y : Nat → Int} (V : VP n X Y) (h : wits n X = []) : n = 2 ∧ X 0 ≠ X 1 := by
  have no2 : ∀ i k, i < k → k < n → X i ≠ X k := fun i k hik hk hx => by
    have := mem_wits2 hik hk hx
    rw [h] at this; cases this
  have no3 : ∀ i j k, i < n → j < n → k < n → X i < X j → ¬ X j < X k := fun i j k hi hj hk h1 h2 => by
    have := mem_wits3 hi hj hk h1 h2
    rw [h] at this; cases this
  have n2 := V.two
  refine ⟨?_, no2 0 1 (by omega) (by omega)⟩
  refine Nat.le_antisymm (Nat.not_lt.1 fun h3 => ?_) n2
  have a1 := no2 0 1 (by omega) (by omega)
  have a2 := no2 0 2 (by omega) (by omega)
  have a3 := no2 1 2 (by omega) (by omega)
  have b1 := no3 0 1 2 (by omega) (by omega) (by omega)
  have b2 := no3 0 2 1 (by omega) (by omega) (by omega)
  have b3 := no3 1 0 2 (by omega) (by omega) (by omega)
  have b4 := no3 1 2 0 (by omega) (by omega) (by omega)
  have b5 := no3 2 0 1 (by omega) (by omega) (by omega)
  have b6 := no3 2 1 0 (by omega) (by omega) (by omega)
  omega

theorem axis_ok {n : Nat} {X Y : Nat → Int} (V : VP n X Y) :
    (rN (maxA X Y (axL n X Y (witS X Y (wits n X)).l).A (axL n X Y (witS X Y (wits n X)).l).B (axL n X Y (witS X Y (wits n X)).l).D n) (axL n X Y (witS X Y (wits n X)).l).D = (witS X Y (wits n X)).N ∧
     rD (maxA X Y (axL n X Y (witS X Y (wits n X)).l).A (axL n X Y (witS X Y (wits n X)).l).B (axL n X Y (witS X Y (wits n X)).l).D n) (axL n X Y (witS X Y (wits n X)).l).D = (witS X Y (wits n X)).D) ∧
    InL (axL n X Y (witS X Y (wits n X)).l).A (axL n X Y (witS X Y (wits n X)).l).B (axL n X Y (witS X Y (wits n X)).l).D := by
  rcases wit_cases V with ⟨e, hn, e1, e2⟩ | ⟨a, b, e, ⟨ha, hb, _, hx⟩, e1, e2, T⟩ | ⟨a, b, c, e, ⟨ha, hb, hc, h1, h2⟩, e1, e2, T⟩
  · rw [e, e1, e2]
    obtain ⟨rfl, hx⟩ := wits_nil V hn
    have ok0 := V.ok 0 (by omega)
    have ok1 := V.ok 1 (by omega)
    have hl : InL (axL 2 X Y []).A (axL 2 X Y []).B (axL 2 X Y []).D := th_in ok0 ok1 hx
    have zero : ∀ i, i < 2 → rs (X i) (Y i) (axL 2 X Y []).A (axL 2 X Y []).B (axL 2 X Y []).D = 0 := fun i hi => by
      show rs (X i) (Y i) (thA (X 0) (Y 0) (X 1) (Y 1)) (thB (X 0) (Y 0) (X 1) (Y 1)) (thD (X 0) (Y 0) (X 1) (Y 1)) = 0
      have hd : rwD (X 0) (Y 0) (X 1) (Y 1) ≠ 0 := by unfold rwD; omega
      have g0 := gk_ne (rwA (X 0) (Y 0) (X 1) (Y 1)) (rwB (X 0) (Y 0) (X 1) (Y 1)) hd
      have q1 := mkA_mul (rwA (X 0) (Y 0) (X 1) (Y 1)) (rwB (X 0) (Y 0) (X 1) (Y 1)) (rwD (X 0) (Y 0) (X 1) (Y 1))
      have q2 := mkB_mul (rwA (X 0) (Y 0) (X 1) (Y 1)) (rwB (X 0) (Y 0) (X 1) (Y 1)) (rwD (X 0) (Y 0) (X 1) (Y 1))
      have q3 := mkD_mul (rwA (X 0) (Y 0) (X 1) (Y 1)) (rwB (X 0) (Y 0) (X 1) (Y 1)) (rwD (X 0) (Y 0) (X 1) (Y 1))
      change thA (X 0) (Y 0) (X 1) (Y 1) * _ = _ at q1
      change thB (X 0) (Y 0) (X 1) (Y 1) * _ = _ at q2
      change thD (X 0) (Y 0) (X 1) (Y 1) * _ = _ at q3
      generalize gk (rwA (X 0) (Y 0) (X 1) (Y 1)) (rwB (X 0) (Y 0) (X 1) (Y 1)) (rwD (X 0) (Y 0) (X 1) (Y 1)) = g at *
      generalize thA (X 0) (Y 0) (X 1) (Y 1) = A at *
      generalize thB (X 0) (Y 0) (X 1) (Y 1) = B at *
      generalize thD (X 0) (Y 0) (X 1) (Y 1) = D at *
      unfold rwA at q1
      unfold rwB at q2
      unfold rwD at q3
      have z : rs (X i) (Y i) A B D * g = 0 := by
        unfold rs
        have : (Y i * D - A * X i - B) * g = Y i * (D * g) - (A * g) * X i - B * g := by grind
        rw [this, q1, q2, q3]
        have : i = 0 ∨ i = 1 := by omega
        rcases this with rfl | rfl <;> grind
      exact (Int.mul_eq_zero.1 z).resolve_right g0
    have mz : maxA X Y (axL 2 X Y []).A (axL 2 X Y []).B (axL 2 X Y []).D 2 = 0 :=
      maxA_eq (n := 2) (Int.le_refl 0) (fun i hi => by rw [zero i hi]; decide) ⟨0, by omega, by rw [zero 0 (by omega)]; rfl⟩ (Nat.le_refl 2)
    rw [mz]
    have r := red_whole (k := 0) (d := (axL 2 X Y []).D) (by have := hl.2.2.1; omega)
    rw [Int.zero_mul] at r
    exact ⟨r, hl⟩
  · rw [e, e1, e2]
    exact beside_ok V ha hb hx T
  · rw [e, e1, e2]
    obtain ⟨r, hl, _⟩ := axis3 V.ok ha hb hc h1 h2 T (A := (thL X Y a c).A) (B := (thL X Y a c).B) (D := (thL X Y a c).D) rfl rfl rfl rfl
    exact ⟨r, hl⟩
end Go.Proofs.Ytbhndfnfohoidaa
