/- Plain law of chapter 7: the curve goes up from 0 to 1, above the diagonal; the area is at least a half. -/
import Derived.Test.YtohcnicadbpbbaaP10
import Derived.Test.YtohcnicadbpbbaaWU
namespace Go.Proofs.Ytohcnicadbpbbaa
open Go.RowKit Go.Firn

theorem bef_crs {f g : Nat → Int} (hf : ∀ i, 0 ≤ f i) (hg : ∀ i, 0 ≤ g i) {a b : Nat} (h : befO f g a b = true) : 0 ≤ crs f g a b := by
  rcases befO_iff.1 h with h1 | h1
  · rcases nth_cases (hf b) (hg b) with ⟨nb, fb, gb⟩ | ⟨nb, pb⟩
    · unfold crs; rw [fb, gb]; simp
    · rcases nth_cases (hf a) (hg a) with ⟨na, fa, ga⟩ | ⟨na, pa⟩ <;> omega
  · omega
theorem row_crs {f g : Nat → Int} (hf : ∀ i, 0 ≤ f i) (hg : ∀ i, 0 ≤ g i) {n p q : Nat} (hpq : p < q) (hq : q < n) : 0 ≤ crs f g (rowN f g n p) (rowN f g n q) := by
  have O := ord_row hf hg (n := n) (by omega)
  exact bef_crs hf hg (O.lt (befO_tr hf hg) p q hpq hq)
/-- Sums of what turns its sign. -/
theorem anti_zero {h : Nat → Nat → Int} (ha : ∀ a b, h b a = -h a b) (k : Nat) : sm (fun p => sm (fun q => h p q) k) k = 0 := by
  have e : sm (fun p => sm (fun q => h p q) k) k = sm (fun p => sm (fun q => h q p) k) k := sm_swap h k k
  have e2 : sm (fun p => sm (fun q => h q p) k) k = sm (fun p => sm (fun q => (-1) * h p q) k) k := sm_congr fun p _ => sm_congr fun q _ => by rw [ha p q]; omega
  rw [e2] at e
  have e3 : sm (fun p => sm (fun q => (-1) * h p q) k) k = (-1) * sm (fun p => sm (fun q => h p q) k) k := by
    rw [← sm_mul]
    exact sm_congr fun p _ => sm_mul (-1) _ k
  rw [e3] at e
  omega
theorem tri_nonneg {h : Nat → Nat → Int} (ha : ∀ a b, h b a = -h a b) {n k : Nat} (hp : ∀ p q, p < q → q < n → 0 ≤ h p q) : ∀ {m : Nat}, k ≤ m → m ≤ n → 0 ≤ sm (fun p => sm (fun q => h p q) m) k
  | m, hk, hm => by
    induction m with
    | zero => rw [show k = 0 by omega]; exact Int.le_refl _
    | succ m ih =>
      by_cases e : k = m + 1
      · rw [e, anti_zero ha]; exact Int.le_refl _
      · have a := ih (by omega) (by omega)
        have b : sm (fun p => sm (fun q => h p q) (m + 1)) k = sm (fun p => sm (fun q => h p q) m) k + sm (fun p => h p m) k := by
          rw [← sm_add]; rfl
        have c : 0 ≤ sm (fun p => h p m) k := by
          have := sm_mono (f := fun _ => 0) (g := fun p => h p m) (n := k) (fun i hi => hp i m (by omega) (by omega))
          rwa [sm_zero (fun _ _ => rfl)] at this
        omega
/-- The sum of the first k of a row. -/
def cum (q : Nat → Int) (f g : Nat → Int) (n k : Nat) : Int := sm (fun p => q (rowN f g n p)) k
theorem curve_above {f g : Nat → Int} (hf : ∀ i, 0 ≤ f i) (hg : ∀ i, 0 ≤ g i) {n k : Nat} (hn : 0 < n) (hk : k ≤ n) : cum f f g n k * sm g n ≤ cum g f g n k * sm f n := by
  have t := tri_nonneg (h := fun p q => crs f g (rowN f g n p) (rowN f g n q)) (fun a b => crs_swap f g _ _) (n := n) (k := k) (fun p q h1 h2 => row_crs hf hg h1 h2) hk (Nat.le_refl n)
  have e : sm (fun p => sm (fun q => crs f g (rowN f g n p) (rowN f g n q)) n) k = cum g f g n k * sm f n - cum f f g n k * sm g n := by
    have e1 : sm (fun p => sm (fun q => crs f g (rowN f g n p) (rowN f g n q)) n) k = sm (fun p => g (rowN f g n p) * sm f n + f (rowN f g n p) * (-sm g n)) k := sm_congr fun p _ => by
      have : sm (fun q => crs f g (rowN f g n p) (rowN f g n q)) n = sm (fun q => g (rowN f g n p) * f (rowN f g n q) + (-f (rowN f g n p)) * g (rowN f g n q)) n := sm_congr fun q _ => by
        show g (rowN f g n p) * f (rowN f g n q) - g (rowN f g n q) * f (rowN f g n p) = _
        rw [Int.neg_mul, Int.mul_comm (g (rowN f g n q)), Int.sub_eq_add_neg]
      rw [this, sm_add, sm_mul, sm_mul, sm_row f g f hn, sm_row f g g hn, Int.neg_mul, Int.mul_neg]
    rw [e1, sm_add, sm_mulr, sm_mulr, Int.mul_neg]
    unfold cum
    omega
  rw [e] at t
  omega
theorem cum_bd {q f g : Nat → Int} (hq : ∀ i, 0 ≤ q i) {n k : Nat} (hn : 0 < n) (hk : k ≤ n) : 0 ≤ cum q f g n k ∧ cum q f g n k ≤ sm q n := by
  rw [← sm_row f g q hn]
  have a := sm_le (f := fun p => q (rowN f g n p)) (j := k) (k := n) hk (fun i _ => hq _)
  have b := sm_le (f := fun p => q (rowN f g n p)) (j := 0) (k := k) (Nat.zero_le _) (fun i _ => hq _)
  have b : 0 ≤ sm (fun p => q (rowN f g n p)) k := b
  unfold cum
  exact ⟨b, a⟩
theorem cum_up {q f g : Nat → Int} (hq : ∀ i, 0 ≤ q i) {n k : Nat} : cum q f g n k ≤ cum q f g n (k + 1) := by
  show cum q f g n k ≤ cum q f g n k + q (rowN f g n k)
  have := hq (rowN f g n k)
  omega
theorem red_zero {d : Int} (hd : 0 < d) : rN 0 d = 0 ∧ rD 0 d = 1 := by
  unfold rN rD
  rw [Int.gcd_zero_left]
  have : ((d.natAbs : Nat) : Int) = d := by omega
  rw [this]
  exact ⟨Int.zero_ediv _, Int.ediv_self (by omega)⟩
theorem red_self {d : Int} (hd : 0 < d) : rN d d = 1 ∧ rD d d = 1 := by
  unfold rN rD
  rw [Int.gcd_self]
  have : ((d.natAbs : Nat) : Int) = d := by omega
  rw [this]
  exact ⟨Int.ediv_self (by omega), Int.ediv_self (by omega)⟩
theorem red_half {n d : Int} (hd : 0 < d) (h : d ≤ 2 * n) : ¬ 2 * rN n d < rD n d := by
  have g := gcd_pos n hd
  have a : (Int.gcd n d : Int) * rN n d = n := Int.mul_ediv_cancel' (Int.gcd_dvd_left ..)
  have b : (Int.gcd n d : Int) * rD n d = d := Int.mul_ediv_cancel' (Int.gcd_dvd_right ..)
  intro hlt
  have := Int.mul_lt_mul_of_pos_left hlt g
  rw [b] at this
  have e : (Int.gcd n d : Int) * (2 * rN n d) = 2 * n := by rw [Int.mul_left_comm, a]
  omega
theorem ar_half {f g : Nat → Int} (hf : ∀ i, 0 ≤ f i) (hg : ∀ i, 0 ≤ g i) {n : Nat} (hn : 0 < n) : 2 * sm f n * sm g n ≤ 2 * arA f g n := by
  rw [arA_mx hf hg hn, Int.mul_assoc, Int.mul_comm (sm f n)]
  have := le_mx f g n
  omega

end Go.Proofs.Ytohcnicadbpbbaa
