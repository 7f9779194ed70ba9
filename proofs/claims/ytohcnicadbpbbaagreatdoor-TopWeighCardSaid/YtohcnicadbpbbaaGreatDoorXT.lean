/- Plain law of chapter 7: products of weights, and two observations. Plain law of chapter 7: two observations have no lesser area, and are no less apart, than each of them. Contracts of chapter 7: which ratios are small, which one is less, and odds that have no greater area and are no farther apart. -/
import Derived.Test.YtohcnicadbpbbaaGreatDoorMC
import Derived.Test.YtohcnicadbpbbaaGreatDoorMD
namespace Go.Proofs.YtohcnicadbpbbaaGreatDoor
open Go.RowKit Go.Firn

theorem sm_split (f : Nat → Int) (a : Nat) : ∀ b, sm f (a + b) = sm f a + sm (fun j => f (a + j)) b
  | 0 => by simp [sm]
  | b + 1 => by
    show sm f (a + b) + f (a + b) = sm f a + (sm (fun j => f (a + j)) b + f (a + b))
    rw [sm_split f a b]; omega
theorem grid_div {m i j : Nat} (hj : j < m) : (i * m + j) / m = i ∧ (i * m + j) % m = j := by
  constructor
  · rw [Nat.mul_comm, Nat.mul_add_div (by omega), Nat.div_eq_of_lt hj, Nat.add_zero]
  · rw [Nat.mul_comm, Nat.mul_add_mod, Nat.mod_eq_of_lt hj]
theorem sm_grid (h : Nat → Nat → Int) {m : Nat} : ∀ n, sm (fun p => h (p / m) (p % m)) (n * m) = sm (fun i => sm (fun j => h i j) m) n
  | 0 => by rw [Nat.zero_mul]; rfl
  | n + 1 => by
    rw [Nat.succ_mul, sm_split, sm_grid h n]
    show _ = sm (fun i => sm (fun j => h i j) m) n + sm (fun j => h n j) m
    congr 1
    exact sm_congr fun j hj => by rw [(grid_div hj).1, (grid_div hj).2]

/-- The product of a pair. -/
def pdF (f u : Nat → Int) (m p : Nat) : Int := f (p / m) * u (p % m)
theorem pdF_at (f u : Nat → Int) {m i j : Nat} (hj : j < m) : pdF f u m (i * m + j) = f i * u j := by unfold pdF; rw [(grid_div hj).1, (grid_div hj).2]
theorem sm_pd (f u : Nat → Int) (n m : Nat) : sm (pdF f u m) (n * m) = sm f n * sm u m := by
  have e := sm_grid (fun i j => f i * u j) (m := m) n
  rw [sm_prod u f n m] at e
  exact e
/-- The greatest common divisor of the first ones. -/
def kG (F : Nat → Int) : Nat → Nat
  | 0 => 0
  | p + 1 => Int.gcd (kG F p) (F p)
theorem kG_dvd (F : Nat → Int) : ∀ {N p : Nat}, p < N → (kG F N : Int) ∣ F p
  | 0, _, h => by omega
  | N + 1, p, h => by
    by_cases e : p = N
    · subst e; exact Int.gcd_dvd_right ..
    · exact Int.dvd_trans (Int.gcd_dvd_left ..) (kG_dvd F (N := N) (by omega))
theorem sm_zero {F : Nat → Int} : ∀ {N : Nat}, (∀ p, p < N → F p = 0) → sm F N = 0
  | 0, _ => rfl
  | N + 1, h => by
    show sm F N + F N = 0
    rw [sm_zero (N := N) (fun p hp => h p (by omega)), h N (by omega)]; rfl
theorem kG_pos {F : Nat → Int} {N : Nat} (h : 0 < sm F N) : 0 < kG F N := by
  rcases Nat.eq_zero_or_pos (kG F N) with e | e
  · rw [sm_zero (fun p hp => by
      have d := kG_dvd F hp
      rw [e] at d
      exact Int.zero_dvd.1 d)] at h
    omega
  · exact e
theorem kG_le (F : Nat → Int) {N M : Nat} (h : N ≤ M) : ∀ {B : Nat}, (∀ p, p < M → (F p).natAbs ≤ B) → kG F N ≤ B := by
  intro B hB
  induction N with
  | zero => exact Nat.zero_le _
  | succ N ih =>
    show Int.gcd (kG F N) (F N) ≤ B
    by_cases e : F N = 0
    · rw [e, Int.gcd_zero_right]; exact ih (by omega)
    · exact Nat.le_trans (Int.gcd_le_natAbs_right _ e) (hB N (by omega))
/-- The products in their least numbers. -/
def pdQ (f u : Nat → Int) (n m p : Nat) : Int := pdF f u m p / (kG (pdF f u m) (n * m) : Int)
theorem pdQ_mul (f u : Nat → Int) {n m p : Nat} (hp : p < n * m) : (kG (pdF f u m) (n * m) : Int) * pdQ f u n m p = pdF f u m p :=
  Int.mul_ediv_cancel' (kG_dvd _ hp)
theorem sm_pdQ (f u : Nat → Int) (n m : Nat) : (kG (pdF f u m) (n * m) : Int) * sm (pdQ f u n m) (n * m) = sm f n * sm u m := by
  rw [← sm_mul, ← sm_pd]
  exact sm_congr fun p hp => pdQ_mul f u hp

theorem max_mul {c : Int} (hc : 0 ≤ c) (a b : Int) : max (c * a) (c * b) = c * max a b := by
  rcases Int.le_total a b with h | h
  · rw [Int.max_eq_right h, Int.max_eq_right (Int.mul_le_mul_of_nonneg_left h hc)]
  · rw [Int.max_eq_left h, Int.max_eq_left (Int.mul_le_mul_of_nonneg_left h hc)]
theorem sm_max {a b : Nat → Int} {n : Nat} : max (sm a n) (sm b n) ≤ sm (fun i => max (a i) (b i)) n := by
  have h1 : sm a n ≤ sm (fun i => max (a i) (b i)) n := sm_mono fun i _ => by omega
  have h2 : sm b n ≤ sm (fun i => max (a i) (b i)) n := sm_mono fun i _ => by omega
  omega
theorem sm_max2 {a b : Nat → Nat → Int} {n m : Nat} : max (sm (fun i => sm (a i) m) n) (sm (fun i => sm (b i) m) n) ≤ sm (fun i => sm (fun j => max (a i j) (b i j)) m) n :=
  Int.le_trans sm_max (sm_mono fun _ _ => sm_max)
/-- Scaled lists. -/
theorem mx_scale {f g F G : Nat → Int} {K L : Int} {n : Nat} (hK : 0 ≤ K) (hL : 0 ≤ L) (hF : ∀ p, p < n → K * F p = f p) (hG : ∀ p, p < n → L * G p = g p) : (K * L) * mxS F G n = mxS f g n := by
  unfold mxS
  rw [← sm_mul]
  refine sm_congr fun a ha => ?_
  rw [← sm_mul]
  refine sm_congr fun b hb => ?_
  rw [← max_mul (Int.mul_nonneg hK hL), ← hF a ha, ← hF b hb, ← hG a ha, ← hG b hb]
  congr 1 <;> ac_rfl
theorem ap_scale {f g F G : Nat → Int} {K L : Int} {n : Nat} (hK : 0 ≤ K) (hL : 0 ≤ L) (hF : ∀ p, p < n → K * F p = f p) (hG : ∀ p, p < n → L * G p = g p) : (K * L) * apP F G n = apP f g n := by
  unfold apP
  rw [← sm_mul]
  refine sm_congr fun a ha => ?_
  have e1 : sm f n = K * sm F n := by rw [← sm_mul]; exact sm_congr fun p hp => (hF p hp).symm
  have e2 : sm g n = L * sm G n := by rw [← sm_mul]; exact sm_congr fun p hp => (hG p hp).symm
  rw [← max_mul (Int.mul_nonneg hK hL), ← hF a ha, ← hG a ha, e1, e2, Int.mul_zero, Int.mul_sub]
  congr 2 <;> ac_rfl

theorem mx_grid (f g u v : Nat → Int) (n m : Nat) : mxS (pdF f u m) (pdF g v m) (n * m) =
    sm (fun i => sm (fun j => sm (fun i' => sm (fun j' => max ((g i * v j) * (f i' * u j')) ((g i' * v j') * (f i * u j))) m) n) m) n := by
  unfold mxS
  have e := sm_grid (fun i j => sm (fun b => max ((g i * v j) * pdF f u m b) (pdF g v m b * (f i * u j))) (n * m)) (m := m) n
  refine Eq.trans ?_ (e.trans ?_)
  · rfl
  · refine sm_congr fun i _ => sm_congr fun j _ => ?_
    exact sm_grid (fun i' j' => max ((g i * v j) * (f i' * u j')) ((g i' * v j') * (f i * u j))) n
theorem mx_left {f g u v : Nat → Int} {n m : Nat} (hU : 0 ≤ sm u m) (hV : 0 ≤ sm v m) : mxS f g n * (sm v m * sm u m) ≤ mxS (pdF f u m) (pdF g v m) (n * m) := by
  rw [mx_grid]
  have s : ∀ i, sm (fun j => sm (fun i' => sm (fun j' => max ((g i * v j) * (f i' * u j')) ((g i' * v j') * (f i * u j))) m) n) m = sm (fun i' => sm (fun j => sm (fun j' => max ((g i * v j) * (f i' * u j')) ((g i' * v j') * (f i * u j))) m) m) n := fun i =>
    sm_swap (fun j i' => sm (fun j' => max ((g i * v j) * (f i' * u j')) ((g i' * v j') * (f i * u j))) m) n m
  rw [sm_congr fun i _ => s i]
  unfold mxS
  rw [← sm_mulr]
  refine sm_mono fun i _ => ?_
  rw [← sm_mulr]
  refine sm_mono fun i' _ => ?_
  refine Int.le_trans ?_ sm_max2
  have a1 : sm (fun j => sm (fun j' => (g i * v j) * (f i' * u j')) m) m = (sm v m * sm u m) * (g i * f i') := by
    rw [← sm_prod, ← sm_mulr]
    exact sm_congr fun j _ => by rw [← sm_mulr]; exact sm_congr fun j' _ => by ac_rfl
  have a2 : sm (fun j => sm (fun j' => (g i' * v j') * (f i * u j)) m) m = (sm v m * sm u m) * (g i' * f i) := by
    rw [sm_swap (fun j j' => (g i' * v j') * (f i * u j)) m m, ← sm_prod, ← sm_mulr]
    exact sm_congr fun j _ => by rw [← sm_mulr]; exact sm_congr fun j' _ => by ac_rfl
  rw [a1, a2, max_mul (Int.mul_nonneg hV hU), Int.mul_comm]
  exact Int.le_refl _
theorem mx_right {f g u v : Nat → Int} {n m : Nat} (hN : 0 ≤ sm f n) (hS : 0 ≤ sm g n) : mxS u v m * (sm g n * sm f n) ≤ mxS (pdF f u m) (pdF g v m) (n * m) := by
  rw [mx_grid]
  rw [sm_swap (fun i j => sm (fun i' => sm (fun j' => max ((g i * v j) * (f i' * u j')) ((g i' * v j') * (f i * u j))) m) n) m n]
  unfold mxS
  rw [← sm_mulr]
  refine sm_mono fun j _ => ?_
  have s : ∀ i, sm (fun i' => sm (fun j' => max ((g i * v j) * (f i' * u j')) ((g i' * v j') * (f i * u j))) m) n = sm (fun j' => sm (fun i' => max ((g i * v j) * (f i' * u j')) ((g i' * v j') * (f i * u j))) n) m := fun i =>
    sm_swap (fun i' j' => max ((g i * v j) * (f i' * u j')) ((g i' * v j') * (f i * u j))) m n
  rw [sm_congr fun i _ => s i, sm_swap (fun i j' => sm (fun i' => max ((g i * v j) * (f i' * u j')) ((g i' * v j') * (f i * u j))) n) m n]
  rw [← sm_mulr]
  refine sm_mono fun j' _ => ?_
  refine Int.le_trans ?_ sm_max2
  have a1 : sm (fun i => sm (fun i' => (g i * v j) * (f i' * u j')) n) n = (sm g n * sm f n) * (v j * u j') := by
    rw [← sm_prod, ← sm_mulr]
    exact sm_congr fun i _ => by rw [← sm_mulr]; exact sm_congr fun i' _ => by ac_rfl
  have a2 : sm (fun i => sm (fun i' => (g i' * v j') * (f i * u j)) n) n = (sm g n * sm f n) * (v j' * u j) := by
    rw [sm_swap (fun i i' => (g i' * v j') * (f i * u j)) n n, ← sm_prod, ← sm_mulr]
    exact sm_congr fun i _ => by rw [← sm_mulr]; exact sm_congr fun i' _ => by ac_rfl
  rw [a1, a2, max_mul (Int.mul_nonneg hS hN), Int.mul_comm]
  exact Int.le_refl _

theorem ap_grid (f g u v : Nat → Int) (n m : Nat) : apP (pdF f u m) (pdF g v m) (n * m) =
    sm (fun i => sm (fun j => max 0 ((g i * v j) * (sm f n * sm u m) - (f i * u j) * (sm g n * sm v m))) m) n := by
  unfold apP
  rw [sm_pd, sm_pd]
  exact sm_grid (fun i j => max 0 ((g i * v j) * (sm f n * sm u m) - (f i * u j) * (sm g n * sm v m))) n
theorem ap_left {f g u v : Nat → Int} {n m : Nat} (hU : 0 ≤ sm u m) (hV : 0 ≤ sm v m) : apP f g n * (sm v m * sm u m) ≤ apP (pdF f u m) (pdF g v m) (n * m) := by
  rw [ap_grid]
  unfold apP
  rw [← sm_mulr]
  refine sm_mono fun i _ => ?_
  refine Int.le_trans ?_ sm_max
  rw [sm_zero (fun _ _ => rfl)]
  have a1 : sm (fun j => (g i * v j) * (sm f n * sm u m) - (f i * u j) * (sm g n * sm v m)) m = (sm v m * sm u m) * (g i * sm f n - f i * sm g n) := by
    have e : sm (fun j => (g i * v j) * (sm f n * sm u m) - (f i * u j) * (sm g n * sm v m)) m = sm (fun j => v j * (g i * (sm f n * sm u m)) + u j * (-(f i * (sm g n * sm v m)))) m := sm_congr fun j _ => by
      rw [Int.mul_neg, ← Int.sub_eq_add_neg]
      congr 1 <;> ac_rfl
    rw [e, sm_add, sm_mulr, sm_mulr, Int.mul_neg, ← Int.sub_eq_add_neg, Int.mul_sub]
    congr 1 <;> ac_rfl
  rw [a1, Int.mul_comm, ← max_mul (Int.mul_nonneg hV hU), Int.mul_zero]
  exact Int.le_refl _
theorem ap_right {f g u v : Nat → Int} {n m : Nat} (hN : 0 ≤ sm f n) (hS : 0 ≤ sm g n) : apP u v m * (sm g n * sm f n) ≤ apP (pdF f u m) (pdF g v m) (n * m) := by
  rw [ap_grid, sm_swap (fun i j => max 0 ((g i * v j) * (sm f n * sm u m) - (f i * u j) * (sm g n * sm v m))) m n]
  unfold apP
  rw [← sm_mulr]
  refine sm_mono fun j _ => ?_
  refine Int.le_trans ?_ sm_max
  rw [sm_zero (fun _ _ => rfl)]
  have a1 : sm (fun i => (g i * v j) * (sm f n * sm u m) - (f i * u j) * (sm g n * sm v m)) n = (sm g n * sm f n) * (v j * sm u m - u j * sm v m) := by
    have e : sm (fun i => (g i * v j) * (sm f n * sm u m) - (f i * u j) * (sm g n * sm v m)) n = sm (fun i => g i * (v j * (sm f n * sm u m)) + f i * (-(u j * (sm g n * sm v m)))) n := sm_congr fun i _ => by
      rw [Int.mul_neg, ← Int.sub_eq_add_neg]
      congr 1 <;> ac_rfl
    rw [e, sm_add, sm_mulr, sm_mulr, Int.mul_neg, ← Int.sub_eq_add_neg, Int.mul_sub]
    congr 1 <;> ac_rfl
  rw [a1, Int.mul_comm, ← max_mul (Int.mul_nonneg hS hN), Int.mul_zero]
  exact Int.le_refl _
end Go.Proofs.YtohcnicadbpbbaaGreatDoor

namespace Go.Proofs.YtohcnicadbpbbaaGreatDoor
open Go.RowKit Go.Firn

theorem two_core {A A' P s t K L S T U V : Int} (hK : 0 < K) (hL : 0 < L) (hs : 0 ≤ s) (ht : 0 ≤ t) (e1 : K * S = s * U) (e2 : L * T = t * V) (e3 : (K * L) * A' = P) (h : A * (V * U) ≤ P) : A * (S * T) ≤ A' * (s * t) := by
  refine Int.le_of_mul_le_mul_left (a := K * L) ?_ (Int.mul_pos hK hL)
  have a1 : (K * L) * (A * (S * T)) = (s * t) * (A * (V * U)) := by
    have : (K * L) * (A * (S * T)) = A * ((K * S) * (L * T)) := by ac_rfl
    rw [this, e1, e2]; ac_rfl
  have a2 : (K * L) * (A' * (s * t)) = (s * t) * P := by rw [← e3]; ac_rfl
  rw [a1, a2]
  exact Int.mul_le_mul_of_nonneg_left h (Int.mul_nonneg hs ht)
theorem two_two {A A' S T s t : Int} (h : A * (S * T) ≤ A' * (s * t)) : A * (2 * S * T) ≤ A' * (2 * s * t) := by
  have a : A * (2 * S * T) = 2 * (A * (S * T)) := by ac_rfl
  have b : A' * (2 * s * t) = 2 * (A' * (s * t)) := by ac_rfl
  omega

theorem pdQ_nonneg {f u : Nat → Int} (hf : ∀ i, 0 ≤ f i) (hu : ∀ i, 0 ≤ u i) (n m p : Nat) : 0 ≤ pdQ f u n m p := Int.ediv_nonneg (Int.mul_nonneg (hf _) (hu _)) (by omega)

/-- The area, in parts of both sums. -/
def arA (f g : Nat → Int) (n : Nat) : Int := areN f g (rowN f g n) n
theorem arA_mx {f g : Nat → Int} (hf : ∀ i, 0 ≤ f i) (hg : ∀ i, 0 ≤ g i) {n : Nat} (hn : 0 < n) : arA f g n = mxS f g n := by
  unfold arA; rw [area_pairs hf hg hn, prs_mx]

/-- No lesser area, and no less apart. -/
def Mor (f g : Nat → Int) (n : Nat) (F G : Nat → Int) (N : Nat) : Prop :=
  arA f g n * (2 * sm F N * sm G N) ≤ arA F G N * (2 * sm f n * sm g n) ∧ apP f g n * (sm F N * sm G N) ≤ apP F G N * (sm f n * sm g n)

theorem two_left {f g u v : Nat → Int} {n m : Nat} (hf : ∀ i, 0 ≤ f i) (hg : ∀ i, 0 ≤ g i) (hu : ∀ i, 0 ≤ u i) (hv : ∀ i, 0 ≤ v i) (hn : 0 < n) (hm : 0 < m) (pf : 0 < sm f n) (pg : 0 < sm g n) (pu : 0 < sm u m) (pv : 0 < sm v m) :
    Mor f g n (pdQ f u n m) (pdQ g v n m) (n * m) := by
  have k1 : (0 : Int) < (kG (pdF f u m) (n * m) : Nat) := by have := kG_pos (F := pdF f u m) (N := n * m) (by rw [sm_pd]; exact Int.mul_pos pf pu); omega
  have k2 : (0 : Int) < (kG (pdF g v m) (n * m) : Nat) := by have := kG_pos (F := pdF g v m) (N := n * m) (by rw [sm_pd]; exact Int.mul_pos pg pv); omega
  have m1 := fun p (hp : p < n * m) => pdQ_mul f u hp
  have m2 := fun p (hp : p < n * m) => pdQ_mul g v hp
  have e3 := mx_scale (n := n * m) (by omega) (by omega) m1 m2
  refine ⟨?_, two_core k1 k2 (by omega) (by omega) (sm_pdQ f u n m) (sm_pdQ g v n m) (ap_scale (by omega) (by omega) m1 m2) (ap_left (f := f) (g := g) (n := n) (by omega) (by omega))⟩
  rw [arA_mx hf hg hn, arA_mx (pdQ_nonneg hf hu n m) (pdQ_nonneg hg hv n m) (Nat.mul_pos hn hm)]
  exact two_two (two_core k1 k2 (by omega) (by omega) (sm_pdQ f u n m) (sm_pdQ g v n m) e3 (mx_left (f := f) (g := g) (n := n) (by omega) (by omega)))
theorem two_right {f g u v : Nat → Int} {n m : Nat} (hf : ∀ i, 0 ≤ f i) (hg : ∀ i, 0 ≤ g i) (hu : ∀ i, 0 ≤ u i) (hv : ∀ i, 0 ≤ v i) (hn : 0 < n) (hm : 0 < m) (pf : 0 < sm f n) (pg : 0 < sm g n) (pu : 0 < sm u m) (pv : 0 < sm v m) :
    Mor u v m (pdQ f u n m) (pdQ g v n m) (n * m) := by
  have k1 : (0 : Int) < (kG (pdF f u m) (n * m) : Nat) := by have := kG_pos (F := pdF f u m) (N := n * m) (by rw [sm_pd]; exact Int.mul_pos pf pu); omega
  have k2 : (0 : Int) < (kG (pdF g v m) (n * m) : Nat) := by have := kG_pos (F := pdF g v m) (N := n * m) (by rw [sm_pd]; exact Int.mul_pos pg pv); omega
  have m1 := fun p (hp : p < n * m) => pdQ_mul f u hp
  have m2 := fun p (hp : p < n * m) => pdQ_mul g v hp
  have e3 := mx_scale (n := n * m) (by omega) (by omega) m1 m2
  have s1 := (sm_pdQ f u n m).trans (Int.mul_comm _ _)
  have s2 := (sm_pdQ g v n m).trans (Int.mul_comm _ _)
  refine ⟨?_, two_core k1 k2 (by omega) (by omega) s1 s2 (ap_scale (by omega) (by omega) m1 m2) (ap_right (u := u) (v := v) (m := m) (by omega) (by omega))⟩
  rw [arA_mx hu hv hm, arA_mx (pdQ_nonneg hf hu n m) (pdQ_nonneg hg hv n m) (Nat.mul_pos hn hm)]
  exact two_two (two_core k1 k2 (by omega) (by omega) s1 s2 e3 (mx_right (u := u) (v := v) (m := m) (by omega) (by omega)))

theorem red_one {n d : Int} (hd : 0 < d) (h0 : 0 ≤ n) (h : n ≤ d) : 0 ≤ rN n d ∧ rN n d ≤ rD n d :=
  ⟨rN_nonneg h0, Int.ediv_le_ediv (gcd_pos n hd) h⟩
theorem sm_le10 {f : Nat → Int} {n : Nat} (h : VW n f) : 0 < sm f n ∧ sm f n ≤ 10000 := by
  have := sm_bd (f := f) (B := 1000) (k := n) (fun i hi => h.ok i hi)
  have := h.few
  have := h.pos
  exact ⟨this, by omega⟩
theorem ss_bd {f g : Nat → Int} {n : Nat} (hv : VO n n f g) : 0 < sm f n * sm g n ∧ sm f n * sm g n ≤ 100000000 := by
  obtain ⟨a, b⟩ := sm_le10 hv.noise
  obtain ⟨c, d⟩ := sm_le10 hv.signal
  exact ⟨Int.mul_pos a c, by have := Int.mul_le_mul b d (by omega) (by decide); omega⟩
theorem ar_small {f g : Nat → Int} {n : Nat} (hv : VO n n f g) (hf : ∀ i, 0 ≤ f i) (hg : ∀ i, 0 ≤ g i) : 0 < 2 * sm f n * sm g n ∧ 2 * sm f n * sm g n ≤ 200000000 ∧ 0 ≤ arA f g n ∧ arA f g n ≤ 2 * sm f n * sm g n := by
  obtain ⟨a, b⟩ := ss_bd hv
  have e : 2 * sm f n * sm g n = 2 * (sm f n * sm g n) := Int.mul_assoc _ _ _
  rw [arA_mx hf hg hv.noise.one, e]
  have l := le_mx f g n
  have u := mx_le (n := n) (fun i _ => hf i) (fun i _ => hg i)
  rw [Int.mul_comm (sm g n)] at l u
  omega
theorem ap_small {f g : Nat → Int} {n : Nat} (hv : VO n n f g) (hf : ∀ i, 0 ≤ f i) (hg : ∀ i, 0 ≤ g i) : 0 < sm f n * sm g n ∧ sm f n * sm g n ≤ 200000000 ∧ 0 ≤ apP f g n ∧ apP f g n ≤ sm f n * sm g n := by
  obtain ⟨a, b⟩ := ss_bd hv
  have pf := hv.noise.pos
  have pg := hv.signal.pos
  have l : 0 ≤ apP f g n := by
    have := sm_mono (f := fun _ => 0) (g := fun a => max 0 (g a * sm f n - f a * sm g n)) (n := n) (fun i _ => by omega)
    rwa [sm_zero (fun _ _ => rfl)] at this
  have u : apP f g n ≤ sm f n * sm g n := by
    have h : apP f g n ≤ sm (fun a => g a * sm f n) n := sm_mono fun i _ => by
      have x := Int.mul_nonneg (hg i) (by omega : 0 ≤ sm f n)
      have y := Int.mul_nonneg (hf i) (by omega : 0 ≤ sm g n)
      omega
    rw [sm_mulr, Int.mul_comm] at h
    exact h
  omega
/-- Of two ratios in lowest terms. -/
theorem red_not {n d n' d' : Int} (hd : 0 < d) (hd' : 0 < d') (h : n * d' ≤ n' * d) : ¬ rN n' d' * rD n d < rN n d * rD n' d' := by
  rw [red_lt hd' hd]; omega
end Go.Proofs.YtohcnicadbpbbaaGreatDoor

namespace Go.Proofs.YtohcnicadbpbbaaGreatDoor
open Go.RowKit Go.Firn

/-- A ratio from 0 to 1 with a denominator that is small enough. -/
def Sml (N D : Int) : Prop := 1 ≤ D ∧ D ≤ 200000000 ∧ 0 ≤ N ∧ N ≤ D
set_option maxHeartbeats 1000000 in
theorem small_yes (N D : Int) (w : World) (h : Sml N D) : Calls Tryz.prog 39 #[.agg #[.int .i64 N, .int .i64 D]] w (RetB true w) := by
  obtain ⟨h1, h2, h3, h4⟩ := h
  obtain ⟨W0, hW0⟩ : ∃ W0, w.alloc (.cells #[.int .i64 N, .int .i64 D] 28) = W0 := ⟨_, rfl⟩
  have G0 := Lib.hid (show Gr w W0 by rw [← hW0]; exact (Gr.refl w).alloc _)
  obtain ⟨p0, p1, _⟩ := (show Box2 W0 w.heap.size N D by rw [← hW0]; exact Box2.new rfl)
  go_enter Tryz.func39, Tryz.ntmps39
  go_wp2_with fail
  go_ret
  exact ⟨rfl, G0.out⟩
theorem sml_mul {N D N' D' : Int} (h : Sml N D) (h' : Sml N' D') : wrap64 (N * D') = N * D' ∧ IntKind.i64.wrap (N * D') = N * D' := by
  obtain ⟨h1, h2, h3, h4⟩ := h
  obtain ⟨k1, k2, k3, k4⟩ := h'
  have a := Int.mul_nonneg h3 (by omega : 0 ≤ D')
  have b := Int.mul_le_mul (a := N) (b := D') (c := 200000000) (d := 200000000) (by omega) k2 (by omega) (by omega)
  exact ⟨IntWalk.wrap64_in _ (by omega), IntWalk.i64_in _ (by omega)⟩
set_option maxHeartbeats 1000000 in
theorem less_no (N D N' D' : Int) (w : World) (h : Sml N D) (h' : Sml N' D') (hl : ¬ N * D' < N' * D) : Calls Tryz.prog 16 #[.agg #[.int .i64 N, .int .i64 D], .agg #[.int .i64 N', .int .i64 D']] w (RetB false w) := by
  obtain ⟨q1, q2⟩ := sml_mul h h'
  obtain ⟨q3, q4⟩ := sml_mul h' h
  obtain ⟨W0, hW0⟩ : ∃ W0, (w.alloc (.cells #[.int .i64 N, .int .i64 D] 28)).alloc (.cells #[.int .i64 N', .int .i64 D'] 28) = W0 := ⟨_, rfl⟩
  have G0 := Lib.hid (show Gr w W0 by rw [← hW0]; exact ((Gr.refl w).alloc _).alloc _)
  obtain ⟨p0, p1, _⟩ := (show Box2 W0 w.heap.size N D by rw [← hW0]; exact (Box2.new rfl).gr ((Gr.refl _).alloc _))
  obtain ⟨r0, r1, _⟩ := (show Box2 W0 (w.heap.size + 1) N' D' by rw [← hW0]; exact Box2.new (by simp))
  clear h h'
  go_enter Tryz.func16, Tryz.ntmps16
  go_wp2_with fail
  go_ret
  exact ⟨rfl, G0.out⟩
set_option maxHeartbeats 1000000 in
theorem less_yes (N D N' D' : Int) (w : World) (h : Sml N D) (h' : Sml N' D') (hl : N * D' < N' * D) : Calls Tryz.prog 16 #[.agg #[.int .i64 N, .int .i64 D], .agg #[.int .i64 N', .int .i64 D']] w (RetB true w) := by
  obtain ⟨q1, q2⟩ := sml_mul h h'
  obtain ⟨q3, q4⟩ := sml_mul h' h
  obtain ⟨W0, hW0⟩ : ∃ W0, (w.alloc (.cells #[.int .i64 N, .int .i64 D] 28)).alloc (.cells #[.int .i64 N', .int .i64 D'] 28) = W0 := ⟨_, rfl⟩
  have G0 := Lib.hid (show Gr w W0 by rw [← hW0]; exact ((Gr.refl w).alloc _).alloc _)
  obtain ⟨p0, p1, _⟩ := (show Box2 W0 w.heap.size N D by rw [← hW0]; exact (Box2.new rfl).gr ((Gr.refl _).alloc _))
  obtain ⟨r0, r1, _⟩ := (show Box2 W0 (w.heap.size + 1) N' D' by rw [← hW0]; exact Box2.new (by simp))
  clear h h'
  go_enter Tryz.func16, Tryz.ntmps16
  go_wp2_with fail
  go_ret
  exact ⟨rfl, G0.out⟩

theorem sml_red {n d : Int} (hd : 0 < d) (hb : d ≤ 200000000) (h0 : 0 ≤ n) (h : n ≤ d) : Sml (rN n d) (rD n d) := by
  have a := red_one hd h0 h
  have b := rD_pos (n := n) hd
  have c : rD n d ≤ d := Int.ediv_le_self _ (by omega)
  exact ⟨by omega, by omega, a.1, a.2⟩

end Go.Proofs.YtohcnicadbpbbaaGreatDoor
