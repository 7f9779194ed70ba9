/- How far noise and signal are apart: the gain of the dearest cut at the price 1. Contracts of chapter 7: less, of ratios that may be below 0. The gain of any cut at the price 1 as a ratio: how great, and that it is no greater than how far noise and signal are apart. -/
import Derived.Test.YtohcnicadbpbbaaDoorGains
import Derived.Test.YtohcnicadbpbbaaDoorWY
import Derived.Test.YtohcnicadbpbbaaDoorXT
namespace Go.Proofs.YtohcnicadbpbbaaDoor
open Go.RowKit Go.Firn

/-- What an outcome gains at the price 1. -/
def oneG (f g : Nat → Int) (n a : Nat) : Int := g a * sm f n - f a * sm g n
theorem one_sum (f g : Nat → Int) (n : Nat) (p : Nat → Bool) :
    sm (fun a => if p a then g a else 0) n * 1 * sm f n - 1 * sm (fun a => if p a then f a else 0) n * sm g n = sm (fun a => if p a then oneG f g n a else 0) n := by
  have e : sm (fun a => if p a then oneG f g n a else 0) n = sm (fun a => (if p a then g a else 0) * sm f n + (if p a then f a else 0) * (-sm g n)) n :=
    sm_congr fun a _ => by
      unfold oneG
      cases p a with
      | false => simp
      | true =>
        show g a * sm f n - f a * sm g n = g a * sm f n + f a * (-sm g n)
        rw [Int.mul_neg]; omega
  rw [e, sm_add, sm_mulr, sm_mulr, Int.mul_neg, Int.mul_one, Int.one_mul]
  omega
theorem gS_one (f g : Nat → Int) (n s : Nat) : gS f g n 1 1 s = sm (fun a => if s.testBit a then oneG f g n a else 0) n := by
  unfold gS kS
  exact one_sum f g n s.testBit
theorem gS_far (f g : Nat → Int) (n s : Nat) : gS f g n 1 1 s ≤ apP f g n := by
  rw [gS_one]
  unfold apP
  refine sm_mono fun a _ => ?_
  cases s.testBit a with
  | false => exact Int.le_max_left ..
  | true => exact Int.le_max_right ..
theorem far_is (f g : Nat → Int) (n : Nat) : topV f g n 1 1 = apP f g n := by
  refine Int.le_antisymm (by unfold topV; exact gS_far ..) ?_
  let p : Nat → Bool := fun a => decide (0 < oneG f g n a)
  have C := cut_onL p n
  have h := gnV_top (f := f) (g := g) (P := 1) (D := 1) C
  unfold gnV at h
  rw [kp_onL, kp_onL, one_sum] at h
  refine Int.le_trans (Int.le_of_eq ?_) h
  unfold apP
  refine sm_congr fun a _ => ?_
  show max 0 (oneG f g n a) = if decide (0 < oneG f g n a) = true then oneG f g n a else 0
  by_cases t : 0 < oneG f g n a
  · rw [if_pos (decide_eq_true t)]; omega
  · rw [if_neg (by simpa using t)]; omega
theorem ap_swap (f g : Nat → Int) (n : Nat) : apP g f n = apP f g n := by
  have e : apA g f n = apA f g n := sm_congr fun a _ => by omega
  rw [ap_two, ap_two] at e
  omega

end Go.Proofs.YtohcnicadbpbbaaDoor

namespace Go.Proofs.YtohcnicadbpbbaaDoor
open Go.RowKit Go.Firn

/-- A ratio that is at most 1, with a denominator that is small enough, and not far below 0. -/
def Smn (N D : Int) : Prop := 1 ≤ D ∧ D ≤ 200000000 ∧ -200000000 ≤ N ∧ N ≤ D
theorem Sml.smn {N D : Int} (h : Sml N D) : Smn N D := ⟨h.1, h.2.1, by have := h.2.2.1; omega, h.2.2.2⟩
theorem smn_mul {N D N' D' : Int} (h : Smn N D) (h' : Smn N' D') : wrap64 (N * D') = N * D' ∧ IntKind.i64.wrap (N * D') = N * D' := by
  obtain ⟨h1, h2, h3, h4⟩ := h
  obtain ⟨k1, k2, k3, k4⟩ := h'
  have b := Int.mul_le_mul_of_nonneg_right (show N ≤ 200000000 by omega) (by omega : 0 ≤ D')
  have c := Int.mul_le_mul_of_nonneg_right (show -200000000 ≤ N by omega) (by omega : 0 ≤ D')
  exact ⟨IntWalk.wrap64_in _ (by omega), IntWalk.i64_in _ (by omega)⟩
set_option maxHeartbeats 1000000 in
theorem less_non (N D N' D' : Int) (w : World) (h : Smn N D) (h' : Smn N' D') (hl : ¬ N * D' < N' * D) : Calls Tryd.prog 21 #[.agg #[.int .i64 N, .int .i64 D], .agg #[.int .i64 N', .int .i64 D']] w (RetB false w) := by
  obtain ⟨q1, q2⟩ := smn_mul h h'
  obtain ⟨q3, q4⟩ := smn_mul h' h
  obtain ⟨W0, hW0⟩ : ∃ W0, (w.alloc (.cells #[.int .i64 N, .int .i64 D] 26)).alloc (.cells #[.int .i64 N', .int .i64 D'] 26) = W0 := ⟨_, rfl⟩
  have G0 := Lib.hid (show Gr w W0 by rw [← hW0]; exact ((Gr.refl w).alloc _).alloc _)
  obtain ⟨p0, p1, _⟩ := (show Box2 W0 w.heap.size N D by rw [← hW0]; exact (Box2.new rfl).gr ((Gr.refl _).alloc _))
  obtain ⟨r0, r1, _⟩ := (show Box2 W0 (w.heap.size + 1) N' D' by rw [← hW0]; exact Box2.new (by simp))
  clear h h'
  go_enter Tryd.func21, Tryd.ntmps21
  go_wp2_with fail
  go_ret
  exact ⟨rfl, G0.out⟩

end Go.Proofs.YtohcnicadbpbbaaDoor

namespace Go.Proofs.YtohcnicadbpbbaaDoor

theorem pr_one : Prc 1 1 := ⟨by omega, by omega⟩
theorem S_one (f g : Nat → Int) (n : Nat) : sm g n * 1 * sm f n = sm f n * sm g n := by rw [Int.mul_one, Int.mul_comm]
theorem gn_bd {f g h : Nat → Int} {n q : Nat} (C : Cut n q h) (hf : ∀ i, 0 ≤ f i) (hg : ∀ i, 0 ≤ g i) : -(sm f n * sm g n) ≤ gnV f g n 1 1 h q ∧ gnV f g n 1 1 h q ≤ sm f n * sm g n := by
  have a : 0 ≤ kp f h q ∧ kp f h q ≤ sm f n := by rw [C.kp]; exact kS_bd hf _ n
  have b : 0 ≤ kp g h q ∧ kp g h q ≤ sm g n := by rw [C.kp]; exact kS_bd hg _ n
  have m1 := Int.mul_le_mul_of_nonneg_right b.2 (show 0 ≤ sm f n by omega)
  have m2 := Int.mul_nonneg b.1 (show 0 ≤ sm f n by omega)
  have m3 := Int.mul_le_mul_of_nonneg_right a.2 (show 0 ≤ sm g n by omega)
  have m4 := Int.mul_nonneg a.1 (show 0 ≤ sm g n by omega)
  have e := Int.mul_comm (sm g n) (sm f n)
  unfold gnV
  rw [Int.mul_one, Int.one_mul]
  omega
theorem red_smn {n d : Int} (hd : 0 < d) (hb : d ≤ 200000000) (h0 : -d ≤ n) (h : n ≤ d) : Smn (rN n d) (rD n d) := by
  have b := rD_pos (n := n) hd
  have c : rD n d ≤ d := Int.ediv_le_self _ (by omega)
  have g := gcd_pos n hd
  refine ⟨by omega, by omega, ?_, Int.ediv_le_ediv g h⟩
  have k : -d ≤ rN n d := by
    unfold rN
    refine (Int.le_ediv_iff_mul_le g).2 ?_
    have := Int.mul_le_mul_of_nonneg_left (show (1 : Int) ≤ (Int.gcd n d : Int) by omega) (show 0 ≤ d by omega)
    rw [Int.neg_mul]
    omega
  omega
theorem far_not {f g h : Nat → Int} {n q : Nat} (C : Cut n q h) (hd : 0 < sm f n * sm g n) :
    ¬ rN (apP f g n) (sm f n * sm g n) * rD (gnV f g n 1 1 h q) (sm f n * sm g n) < rN (gnV f g n 1 1 h q) (sm f n * sm g n) * rD (apP f g n) (sm f n * sm g n) := by
  refine red_not hd hd (Int.mul_le_mul_of_nonneg_right ?_ (by omega))
  rw [← far_is]
  exact gnV_top C

end Go.Proofs.YtohcnicadbpbbaaDoor
