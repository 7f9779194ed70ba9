/- Plain law of chapter 7: two observations have no lesser area, and are no less apart, than each of them. -/
import Derived.Test.YtohcnicadbpbbaaP9
import Derived.Test.YtohcnicadbpbbaaWD
namespace Go.Proofs.Ytohcnicadbpbbaa
open Go.RowKit Go.Firn

theorem two_core {A A' P s t K L S T U V : Int} (hK : 0 < K) (hL : 0 < L) (hs : 0 ≤ s) (ht : 0 ≤ t) (e1 : K * S = s * U) (e2 : L * T = t * V) (e3 : (K * L) * A' = P) (h : A * (V * U) ≤ P) : A * (S * T) ≤ A' * (s * t) := by
  refine Int.le_of_mul_le_mul_left (a := K * L) ?_ (Int.mul_pos hK hL)
  have a1 : (K * L) * (A * (S * T)) = (s * t) * (A * (V * U)) := by
    have : (K * L) * (A * (S * T)) = A * ((K * S) * (L * T)) := by ac_rfl
    rw [this, e1, e2]; ac_rfl
  have a2 : (K * L) * (A' * (s * t)) = (s * t) * P := by rw [← e3]; ac_rfl
  rw [a1, a2]
  exact Int.mul_le_mul_of_nonneg_left h (Int.mul_nonneg hs ht)
theorem two_two {A A' S T s t : Int} (h : A * (S * T) ≤ A' * (s * t)) : A * (2 * S * T) ≤ A' * (2 * s * t) := by
  have a : A * (2 * S * T) = 2 * (A * (S * T)) := by ac_rfl
  have b : A' * (2 * s * t) = 2 * (A' * (s * t)) := by ac_rfl
  omega

theorem pdQ_nonneg {f u : Nat → Int} (hf : ∀ i, 0 ≤ f i) (hu : ∀ i, 0 ≤ u i) (n m p : Nat) : 0 ≤ pdQ f u n m p := Int.ediv_nonneg (Int.mul_nonneg (hf _) (hu _)) (by omega)

/-- The area, in parts of both sums. -/
def arA (f g : Nat → Int) (n : Nat) : Int := areN f g (rowN f g n) n
theorem arA_mx {f g : Nat → Int} (hf : ∀ i, 0 ≤ f i) (hg : ∀ i, 0 ≤ g i) {n : Nat} (hn : 0 < n) : arA f g n = mxS f g n := by
  unfold arA; rw [area_pairs hf hg hn, prs_mx]

/-- No lesser area, and no less apart. -/
def Mor (f g : Nat → Int) (n : Nat) (F G : Nat → Int) (N : Nat) : Prop :=
  arA f g n * (2 * sm F N * sm G N) ≤ arA F G N * (2 * sm f n * sm g n) ∧ apP f g n * (sm F N * sm G N) ≤ apP F G N * (sm f n * sm g n)

theorem two_left {f g u v : Nat → Int} {n m : Nat} (hf : ∀ i, 0 ≤ f i) (hg : ∀ i, 0 ≤ g i) (hu : ∀ i, 0 ≤ u i) (hv : ∀ i, 0 ≤ v i) (hn : 0 < n) (hm : 0 < m) (pf : 0 < sm f n) (pg : 0 < sm g n) (pu : 0 < sm u m) (pv : 0 < sm v m) :
    Mor f g n (pdQ f u n m) (pdQ g v n m) (n * m) := by
  have k1 : (0 : Int) < (kG (pdF f u m) (n * m) : Nat) := by have := kG_pos (F := pdF f u m) (N := n * m) (by rw [sm_pd]; exact Int.mul_pos pf pu); omega
  have k2 : (0 : Int) < (kG (pdF g v m) (n * m) : Nat) := by have := kG_pos (F := pdF g v m) (N := n * m) (by rw [sm_pd]; exact Int.mul_pos pg pv); omega
  have m1 := fun p (hp : p < n * m) => pdQ_mul f u hp
  have m2 := fun p (hp : p < n * m) => pdQ_mul g v hp
  have e3 := mx_scale (n := n * m) (by omega) (by omega) m1 m2
  refine ⟨?_, two_core k1 k2 (by omega) (by omega) (sm_pdQ f u n m) (sm_pdQ g v n m) (ap_scale (by omega) (by omega) m1 m2) (ap_left (f := f) (g := g) (n := n) (by omega) (by omega))⟩
  rw [arA_mx hf hg hn, arA_mx (pdQ_nonneg hf hu n m) (pdQ_nonneg hg hv n m) (Nat.mul_pos hn hm)]
  exact two_two (two_core k1 k2 (by omega) (by omega) (sm_pdQ f u n m) (sm_pdQ g v n m) e3 (mx_left (f := f) (g := g) (n := n) (by omega) (by omega)))
theorem two_right {f g u v : Nat → Int} {n m : Nat} (hf : ∀ i, 0 ≤ f i) (hg : ∀ i, 0 ≤ g i) (hu : ∀ i, 0 ≤ u i) (hv : ∀ i, 0 ≤ v i) (hn : 0 < n) (hm : 0 < m) (pf : 0 < sm f n) (pg : 0 < sm g n) (pu : 0 < sm u m) (pv : 0 < sm v m) :
    Mor u v m (pdQ f u n m) (pdQ g v n m) (n * m) := by
  have k1 : (0 : Int) < (kG (pdF f u m) (n * m) : Nat) := by have := kG_pos (F := pdF f u m) (N := n * m) (by rw [sm_pd]; exact Int.mul_pos pf pu); omega
  have k2 : (0 : Int) < (kG (pdF g v m) (n * m) : Nat) := by have := kG_pos (F := pdF g v m) (N := n * m) (by rw [sm_pd]; exact Int.mul_pos pg pv); omega
  have m1 := fun p (hp : p < n * m) => pdQ_mul f u hp
  have m2 := fun p (hp : p < n * m) => pdQ_mul g v hp
  have e3 := mx_scale (n := n * m) (by omega) (by omega) m1 m2
  have s1 := (sm_pdQ f u n m).trans (Int.mul_comm _ _)
  have s2 := (sm_pdQ g v n m).trans (Int.mul_comm _ _)
  refine ⟨?_, two_core k1 k2 (by omega) (by omega) s1 s2 (ap_scale (by omega) (by omega) m1 m2) (ap_right (u := u) (v := v) (m := m) (by omega) (by omega))⟩
  rw [arA_mx hu hv hm, arA_mx (pdQ_nonneg hf hu n m) (pdQ_nonneg hg hv n m) (Nat.mul_pos hn hm)]
  exact two_two (two_core k1 k2 (by omega) (by omega) s1 s2 e3 (mx_right (u := u) (v := v) (m := m) (by omega) (by omega)))

theorem red_one {n d : Int} (hd : 0 < d) (h0 : 0 ≤ n) (h : n ≤ d) : 0 ≤ rN n d ∧ rN n d ≤ rD n d :=
  ⟨rN_nonneg h0, Int.ediv_le_ediv (gcd_pos n hd) h⟩
theorem sm_le10 {f : Nat → Int} {n : Nat} (h : VW n f) : 0 < sm f n ∧ sm f n ≤ 10000 := by
  have := sm_bd (f := f) (B := 1000) (k := n) (fun i hi => h.ok i hi)
  have := h.few
  have := h.pos
  exact ⟨this, by omega⟩
theorem ss_bd {f g : Nat → Int} {n : Nat} (hv : VO n n f g) : 0 < sm f n * sm g n ∧ sm f n * sm g n ≤ 100000000 := by
  obtain ⟨a, b⟩ := sm_le10 hv.noise
  obtain ⟨c, d⟩ := sm_le10 hv.signal
  exact ⟨Int.mul_pos a c, by have := Int.mul_le_mul b d (by omega) (by decide); omega⟩
theorem ar_small {f g : Nat → Int} {n : Nat} (hv : VO n n f g) (hf : ∀ i, 0 ≤ f i) (hg : ∀ i, 0 ≤ g i) : 0 < 2 * sm f n * sm g n ∧ 2 * sm f n * sm g n ≤ 200000000 ∧ 0 ≤ arA f g n ∧ arA f g n ≤ 2 * sm f n * sm g n := by
  obtain ⟨a, b⟩ := ss_bd hv
  have e : 2 * sm f n * sm g n = 2 * (sm f n * sm g n) := Int.mul_assoc _ _ _
  rw [arA_mx hf hg hv.noise.one, e]
  have l := le_mx f g n
  have u := mx_le (n := n) (fun i _ => hf i) (fun i _ => hg i)
  rw [Int.mul_comm (sm g n)] at l u
  omega
theorem ap_small {f g : Nat → Int} {n : Nat} (hv : VO n n f g) (hf : ∀ i, 0 ≤ f i) (hg : ∀ i, 0 ≤ g i) : 0 < sm f n * sm g n ∧ sm f n * sm g n ≤ 200000000 ∧ 0 ≤ apP f g n ∧ apP f g n ≤ sm f n * sm g n := by
  obtain ⟨a, b⟩ := ss_bd hv
  have pf := hv.noise.pos
  have pg := hv.signal.pos
  have l : 0 ≤ apP f g n := by
    have := sm_mono (f := fun _ => 0) (g := fun a => max 0 (g a * sm f n - f a * sm g n)) (n := n) (fun i _ => by omega)
    rwa [sm_zero (fun _ _ => rfl)] at this
  have u : apP f g n ≤ sm f n * sm g n := by
    have h : apP f g n ≤ sm (fun a => g a * sm f n) n := sm_mono fun i _ => by
      have x := Int.mul_nonneg (hg i) (by omega : 0 ≤ sm f n)
      have y := Int.mul_nonneg (hf i) (by omega : 0 ≤ sm g n)
      omega
    rw [sm_mulr, Int.mul_comm] at h
    exact h
  omega
/-- Of two ratios in lowest terms. -/
theorem red_not {n d n' d' : Int} (hd : 0 < d) (hd' : 0 < d') (h : n * d' ≤ n' * d) : ¬ rN n' d' * rD n d < rN n d * rD n' d' := by
  rw [red_lt hd' hd]; omega
end Go.Proofs.Ytohcnicadbpbbaa
