/- Sums behind a merge: a set of merged outcomes holds what a set of the outcomes holds. A merge that makes odds invalid makes a weight too great. The best cut of a merge has no more signal than that of the odds. A merge is no farther apart. A merge has no greater area. A merge has no greater area and is no farther apart: as notMore asks. Contracts of chapter 7: a merge may make a weight too great. -/
import Derived.Test.YtohcnicadbpbbaaDoorXW
import Derived.Test.YtohcnicadbpbbaaDoorP6
import Derived.Test.YtohcnicadbpbbaaDoorP13
import Derived.Test.YtohcnicadbpbbaaDoorW4
import Derived.Test.YtohcnicadbpbbaaDoorXB
import Derived.Test.YtohcnicadbpbbaaDoorXQ
import Derived.Test.YtohcnicadbpbbaaDoorXT
namespace Go.Proofs.YtohcnicadbpbbaaDoor

theorem sm_skip (h : Nat → Int) {j : Nat} : ∀ {N : Nat}, j ≤ N → sm (fun p => if p < j then h p else h (p + 1)) N + h j = sm h (N + 1)
  | 0, hj => by
    obtain rfl : j = 0 := by omega
    show (0 : Int) + h 0 = 0 + h 0
    rfl
  | N + 1, hj => by
    by_cases e : j = N + 1
    · subst e
      have : sm (fun p => if p < N + 1 then h p else h (p + 1)) (N + 1) = sm h (N + 1) := sm_congr fun p hp => if_pos hp
      rw [this]
      rfl
    · have ih := sm_skip h (j := j) (N := N) (by omega)
      show sm (fun p => if p < j then h p else h (p + 1)) N + (if N < j then h N else h (N + 1)) + h j = sm h (N + 1) + h (N + 1)
      rw [if_neg (by omega), ← ih]
      omega
theorem sm_only (c : Int) {i : Nat} : ∀ {N : Nat}, i < N → sm (fun q => if q = i then c else 0) N = c
  | 0, h => by omega
  | N + 1, h => by
    show sm (fun q => if q = i then c else 0) N + (if N = i then c else 0) = c
    by_cases e : N = i
    · rw [if_pos e]
      have : sm (fun q => if q = i then c else 0) N = sm (fun _ => 0) N := sm_congr fun q hq => if_neg (by omega)
      have z : ∀ M, sm (fun _ => (0 : Int)) M = 0 := fun M => by
        induction M with
        | zero => rfl
        | succ M ih => show sm (fun _ => (0 : Int)) M + 0 = 0; omega
      rw [this, z]; omega
    · rw [if_neg e, sm_only c (by omega)]; omega
/-- The outcomes that stand behind a set of merged ones. -/
def unM (p : Nat → Bool) (i j a : Nat) : Bool := if a = j then p i else if a < j then p a else p (a - 1)
theorem unM_sum (f : Nat → Int) (p : Nat → Bool) {n i j : Nat} (hij : i < j) (hj : j < n) :
    sm (fun a => if p a then mgF f i j a else 0) (n - 1) = sm (fun a => if unM p i j a then f a else 0) n := by
  let h : Nat → Int := fun a => if unM p i j a then f a else 0
  have hh : h j = if p i then f j else 0 := by show (if unM p i j j then f j else 0) = _; unfold unM; rw [if_pos rfl]
  have e : sm (fun a => if p a then mgF f i j a else 0) (n - 1) = sm (fun q => (if q < j then h q else h (q + 1)) + (if q = i then h j else 0)) (n - 1) :=
    sm_congr fun q hq => by
      have k : (if q < j then h q else h (q + 1)) = if p q then (if q < j then f q else f (q + 1)) else 0 := by
        by_cases t : q < j
        · rw [if_pos t, if_pos t]
          show (if unM p i j q then f q else 0) = _
          rw [show unM p i j q = p q from by unfold unM; rw [if_neg (by omega), if_pos t]]
        · rw [if_neg t, if_neg t]
          show (if unM p i j (q + 1) then f (q + 1) else 0) = _
          rw [show unM p i j (q + 1) = p q from by unfold unM; rw [if_neg (by omega), if_neg (by omega)]; rfl]
      rw [k, hh]
      unfold mgF
      by_cases t : q = i
      · subst t
        cases p q <;> simp
      · rw [if_neg t, if_neg t]
        cases p q <;> simp
  rw [e, sm_add, sm_only _ (by omega)]
  have := sm_skip h (j := j) (N := n - 1) (by omega)
  rw [show n - 1 + 1 = n by omega] at this
  exact this

end Go.Proofs.YtohcnicadbpbbaaDoor

namespace Go.Proofs.YtohcnicadbpbbaaDoor

theorem mg_sum (f : Nat → Int) {n i j : Nat} (hij : i < j) (hj : j < n) : sm (mgF f i j) (n - 1) = sm f n := by
  have h := unM_sum f (fun _ => true) hij hj
  have e : sm (fun a => if unM (fun _ => true) i j a then f a else 0) n = sm f n := sm_congr fun a _ => by
    rw [if_pos]
    unfold unM
    split
    · rfl
    · split <;> rfl
  rw [e] at h
  exact (sm_congr fun a _ => (if_pos rfl).symm).trans h
theorem mg_nonneg {f : Nat → Int} {n i j : Nat} (hf : ∀ k, k < n → 0 ≤ f k) (hj : j < n) {p : Nat} (hp : p < n - 1) : 0 ≤ mgF f i j p := by
  have a := hf j hj
  have b := hf p (by omega)
  have c := hf (p + 1) (by omega)
  unfold mgF
  split <;> split <;> omega
theorem mg_VW {f : Nat → Int} {n i j : Nat} (V : VW n f) (hij : i < j) (hj : j < n) (h : ∀ p, p < n - 1 → mgF f i j p ≤ 1000) : VW (n - 1) (mgF f i j) :=
  ⟨by omega, by have := V.few; omega, fun p hp => ⟨mg_nonneg (fun k hk => (V.ok k hk).1) hj hp, h p hp⟩, by rw [mg_sum f hij hj]; exact V.pos⟩
theorem mg_over {f g : Nat → Int} {n i j : Nat} (V : VO n n f g) (hij : i < j) (hj : j < n) (hv : vO (n - 1) (n - 1) (mgF f i j) (mgF g i j) = false) :
    (∃ p, p < n - 1 ∧ 1000 < mgF f i j p) ∨ ∃ p, p < n - 1 ∧ 1000 < mgF g i j p := by
  by_cases h1 : ∃ p, p < n - 1 ∧ 1000 < mgF f i j p
  · exact .inl h1
  · by_cases h2 : ∃ p, p < n - 1 ∧ 1000 < mgF g i j p
    · exact .inr h2
    · exfalso
      have a : ∀ p, p < n - 1 → mgF f i j p ≤ 1000 := fun p hp => Int.not_lt.1 fun h => h1 ⟨p, hp, h⟩
      have b : ∀ p, p < n - 1 → mgF g i j p ≤ 1000 := fun p hp => Int.not_lt.1 fun h => h2 ⟨p, hp, h⟩
      have := vO_iff.2 ⟨mg_VW V.noise hij hj a, mg_VW V.signal hij hj b, rfl⟩
      rw [this] at hv
      cases hv

end Go.Proofs.YtohcnicadbpbbaaDoor

namespace Go.Proofs.YtohcnicadbpbbaaDoor

theorem set_of (p : Nat → Bool) (n : Nat) : ∃ s, s < 2 ^ n ∧ ∀ f : Nat → Int, kS f s n = sm (fun a => if p a then f a else 0) n := by
  have C := cut_onL p n
  exact ⟨cutS (nf (onL p n)) (onL p n).length, cutS_lt C, fun f => by rw [← C.kp, kp_onL]⟩
theorem best_is {f g : Nat → Int} {n : Nat} {A D : Int} (hp : Noi A D) (V : VW n f) : IsBest (2 ^ n) (beQ f n A D) (fun s => kS g s n) (cS n) (beB f g n A D) := bestR_best (beQ_zero hp V)
theorem mg_best {f g : Nat → Int} {n i j : Nat} {A D : Int} (hp : Noi A D) (V : VO n n f g) (V' : VO (n - 1) (n - 1) (mgF f i j) (mgF g i j)) (hij : i < j) (hj : j < n) :
    kS (mgF g i j) (beB (mgF f i j) (mgF g i j) (n - 1) A D) (n - 1) ≤ kS g (beB f g n A D) n := by
  have B' := best_is (g := mgF g i j) hp V'.noise
  have B := best_is (g := g) hp V.noise
  have ok := of_decide_eq_true (show decide _ = true from B'.ok)
  obtain ⟨s, hs, e⟩ := set_of (unM (beB (mgF f i j) (mgF g i j) (n - 1) A D).testBit i j) n
  have ef := (e f).trans (unM_sum f _ hij hj).symm
  have eg := (e g).trans (unM_sum g _ hij hj).symm
  have q : beQ f n A D s = true := by
    unfold beQ
    refine decide_eq_true ?_
    rw [ef, ← mg_sum f hij hj]
    exact ok
  have t : kS g s n ≤ kS g (beB f g n A D) n := by
    rcases B.top s hs q with h | ⟨h, _⟩
    · exact Int.le_of_lt h
    · exact Int.le_of_eq h
  rw [eg] at t
  exact t

end Go.Proofs.YtohcnicadbpbbaaDoor

namespace Go.Proofs.YtohcnicadbpbbaaDoor

theorem mg_apart (f g : Nat → Int) {n i j : Nat} (hij : i < j) (hj : j < n) : apP (mgF f i j) (mgF g i j) (n - 1) ≤ apP f g n := by
  rw [← far_is]
  unfold topV
  obtain ⟨s, hs, e⟩ := set_of (unM (drB (mgF f i j) (mgF g i j) (n - 1) 1 1).testBit i j) n
  have ef : kS f s n = kS (mgF f i j) (drB (mgF f i j) (mgF g i j) (n - 1) 1 1) (n - 1) := (e f).trans (unM_sum f _ hij hj).symm
  have eg : kS g s n = kS (mgF g i j) (drB (mgF f i j) (mgF g i j) (n - 1) 1 1) (n - 1) := (e g).trans (unM_sum g _ hij hj).symm
  refine Int.le_trans (Int.le_of_eq ?_) (gS_far f g n s)
  unfold gS
  rw [ef, eg, mg_sum f hij hj, mg_sum g hij hj]

end Go.Proofs.YtohcnicadbpbbaaDoor

namespace Go.Proofs.YtohcnicadbpbbaaDoor

theorem mg_le {K h : Nat → Int} {n i j : Nat} (hij : i < j) (hj : j < n) (hk : ∀ p, p < n - 1 → K p ≤ (if p < j then h p else h (p + 1)) + (if p = i then h j else 0)) : sm K (n - 1) ≤ sm h n := by
  refine Int.le_trans (sm_mono hk) ?_
  rw [sm_add, sm_only _ (by omega)]
  have := sm_skip h (j := j) (N := n - 1) (by omega)
  rw [show n - 1 + 1 = n by omega] at this
  exact Int.le_of_eq this
theorem max_two (a b c d : Int) : max (a + b) (c + d) ≤ max a c + max b d := by omega
/-- What a pair of weights shares with all. -/
def shr (f g : Nat → Int) (n : Nat) (u v : Int) : Int := sm (fun b => max (v * f b) (g b * u)) n
theorem shr_two (f g : Nat → Int) (n : Nat) (u v u' v' : Int) : shr f g n (u + u') (v + v') ≤ shr f g n u v + shr f g n u' v' := by
  unfold shr
  rw [← sm_add]
  refine sm_mono fun b _ => ?_
  rw [Int.add_mul, Int.mul_add]
  exact max_two ..
theorem shr_mg (f g : Nat → Int) {n i j : Nat} (hij : i < j) (hj : j < n) (u v : Int) : shr (mgF f i j) (mgF g i j) (n - 1) u v ≤ shr f g n u v := by
  unfold shr
  refine mg_le hij hj fun p _ => ?_
  unfold mgF
  by_cases t : p < j
  · simp only [if_pos t]
    by_cases e : p = i
    · simp only [if_pos e]
      rw [Int.mul_add, Int.add_mul]
      exact max_two ..
    · simp only [if_neg e]
      simp
  · simp only [if_neg t, if_neg (show ¬ p = i by omega)]
    simp
theorem mg_mx (f g : Nat → Int) {n i j : Nat} (hij : i < j) (hj : j < n) : mxS (mgF f i j) (mgF g i j) (n - 1) ≤ mxS f g n := by
  show sm (fun a => shr (mgF f i j) (mgF g i j) (n - 1) (mgF f i j a) (mgF g i j a)) (n - 1) ≤ sm (fun a => shr f g n (f a) (g a)) n
  refine mg_le hij hj fun p _ => Int.le_trans (shr_mg f g hij hj _ _) ?_
  unfold mgF
  by_cases t : p < j
  · simp only [if_pos t]
    by_cases e : p = i
    · simp only [if_pos e]
      exact shr_two ..
    · simp only [if_neg e]
      simp
  · simp only [if_neg t, if_neg (show ¬ p = i by omega)]
    simp

end Go.Proofs.YtohcnicadbpbbaaDoor

namespace Go.Proofs.YtohcnicadbpbbaaDoor

theorem mg_all {f : Nat → Int} (hf : ∀ k, 0 ≤ f k) (i j p : Nat) : 0 ≤ mgF f i j p := by
  have a := hf j
  have b := hf p
  have c := hf (p + 1)
  unfold mgF
  split <;> split <;> omega
theorem mg_mor {f g : Nat → Int} {n i j : Nat} (hf : ∀ k, 0 ≤ f k) (hg : ∀ k, 0 ≤ g k) (pf : 0 < sm f n) (pg : 0 < sm g n) (hij : i < j) (hj : j < n) : Mor (mgF f i j) (mgF g i j) (n - 1) f g n := by
  unfold Mor
  rw [mg_sum f hij hj, mg_sum g hij hj, arA_mx (mg_all hf i j) (mg_all hg i j) (by omega), arA_mx hf hg (by omega)]
  have m := Int.mul_pos pf pg
  have m2 : 0 ≤ 2 * sm f n * sm g n := by rw [Int.mul_assoc]; omega
  exact ⟨Int.mul_le_mul_of_nonneg_right (mg_mx f g hij hj) m2, Int.mul_le_mul_of_nonneg_right (mg_apart f g hij hj) (by omega)⟩

end Go.Proofs.YtohcnicadbpbbaaDoor

namespace Go.Proofs.YtohcnicadbpbbaaDoor
open Go.RowKit Go.Firn

set_option maxHeartbeats 2000000 in
set_option maxRecDepth 100000 in
theorem over_yes (a a2 : Option Addr) (n c d : Nat) (f g : Nat → Int) (w : World) (hn : n ≤ 1000) (hr : RdI w a n f) (hs : RdI w a2 n g) (hx : (∃ i, i < n ∧ 1000 < f i) ∨ ∃ i, i < n ∧ 1000 < g i) :
    Calls Tryd.prog 29 #[.agg #[.slice a n c, .slice a2 n d]] w (RetB true w) := by
  obtain ⟨W0, hW0⟩ : ∃ W0, w.alloc (.cells #[.slice a n c, .slice a2 n d] 24) = W0 := ⟨_, rfl⟩
  have G0 := Lib.hid (show Gr w W0 by rw [← hW0]; exact (Gr.refl w).alloc _)
  have B1 := Lib.hid (show BoxO W0 w.heap.size (.slice a n c) (.slice a2 n d) by rw [← hW0]; exact BoxO.new rfl)
  have HR := Lib.hid hr
  have HS := Lib.hid hs
  have HX := Lib.hid hx
  obtain ⟨p0, p1⟩ := B1.out
  clear hr hs hx
  go_enter Tryd.func29, Tryd.ntmps29
  go_wp2_with fail
  clear p0 p1
  go_loopw [10] (fun i wr => ∃ k : Nat, k ≤ n ∧ i = .int .i64 k ∧ Hid (∀ j, j < k → f j ≤ 1000) ∧ Hid (Gr W0 wr)) (fun i _ => n - (intOf i).toNat)
  case atStart => exact ⟨0, by omega, rfl, Lib.hid (fun j hj => by omega), Lib.hid (by first | exact Gr.refl _ | exact (Gr.refl _).drew)⟩
  case round =>
    obtain ⟨k, hk, rfl, HF, HG⟩ := hrel
    by_cases hlt : k < n
    · have i1 : (k : Int) < (n : Int) := by omega
      obtain ⟨b, o, e1, hc⟩ := (HR.out.gr (G0.out.trans HG.out)).at hlt
      have cx := hc k hlt
      subst e1
      clear hc
      by_cases h1 : 1000 < f k
      · have h1' : f k > 1000 := h1
        go_wp2_with fail
        go_ret
        exact ⟨rfl, G0.out.trans HG.out⟩
      · have h1' : ¬ f k > 1000 := h1
        have HF' := Lib.hid (show ∀ j, j < k + 1 → f j ≤ 1000 from fun j hj => by
          by_cases e : j = k
          · subst e; omega
          · exact HF.out j (by omega))
        go_wp2_with fail
        go_roundw
        case rel => exact ⟨k + 1, hlt, by go_num, HF', HG⟩
        case measure => simp [intOf]; omega
    · have n1 : ¬ (k : Int) < (n : Int) := by omega
      have HY := Lib.hid (show ∃ i, i < n ∧ 1000 < g i from HX.out.elim (fun ⟨i, hi, h⟩ => by have := HF.out i (by omega); omega) id)
      obtain ⟨p0, p1⟩ := B1.out.gr HG.out
      go_wp2_with fail
      clear p0 p1
      go_loopw [20] (fun i w2 => ∃ k : Nat, k ≤ n ∧ i = .int .i64 k ∧ Hid (∀ j, j < k → g j ≤ 1000) ∧ Hid (Gr W0 w2)) (fun i _ => n - (intOf i).toNat)
      case atStart => exact ⟨0, by omega, rfl, Lib.hid (fun j hj => by omega), Lib.hid (by first | exact HG.out | exact HG.out.drew)⟩
      case round =>
        obtain ⟨k2, hk2, rfl, HF2, HG2⟩ := hrel
        by_cases hlt2 : k2 < n
        · have i2 : (k2 : Int) < (n : Int) := by omega
          obtain ⟨b, o, e1, hc⟩ := (HS.out.gr (G0.out.trans HG2.out)).at hlt2
          have cy := hc k2 hlt2
          subst e1
          clear hc
          by_cases h1 : 1000 < g k2
          · have h1' : g k2 > 1000 := h1
            go_wp2_with fail
            go_ret
            exact ⟨rfl, G0.out.trans HG2.out⟩
          · have h1' : ¬ g k2 > 1000 := h1
            have HF' := Lib.hid (show ∀ j, j < k2 + 1 → g j ≤ 1000 from fun j hj => by
              by_cases e : j = k2
              · subst e; omega
              · exact HF2.out j (by omega))
            go_wp2_with fail
            go_roundw
            case rel => exact ⟨k2 + 1, hlt2, by go_num, HF', HG2⟩
            case measure => simp [intOf]; omega
        · exfalso
          obtain ⟨i, hi, h⟩ := HY.out
          have := HF2.out i (by omega)
          omega

end Go.Proofs.YtohcnicadbpbbaaDoor
