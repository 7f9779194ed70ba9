/- Contracts of chapter 7: between, sums of weights, whether some weight is out of range, which weights are valid, of the program and of the reference; the weights of a cut. -/
import Derived.Test.YtohcnicadbpbbaaDoorW1
namespace Go.Proofs.YtohcnicadbpbbaaDoor
open Go.RowKit Go.Firn

def btw (a n b : Int) : Bool := decide (a ≤ n) && decide (n ≤ b)
theorem btw_true {a n b : Int} : btw a n b = true ↔ a ≤ n ∧ n ≤ b := by simp [btw]
theorem btw_false {a n b : Int} : btw a n b = false ↔ ¬ (a ≤ n ∧ n ≤ b) := by simp [btw]

theorem between_any (a n b : Int) (w : World) :
    Calls Tryd.prog 59 #[.int .i64 a, .int .i64 n, .int .i64 b] w fun e w' => e = .returned (.bool (btw a n b)) ∧ w = w' := by
  by_cases h1 : a ≤ n
  · have e : btw a n b = decide (n ≤ b) := by simp [btw, h1]
    go_enter Tryd.func59, Tryd.ntmps59
    go_wp2
    go_ret
    simp [e]
  · have e : btw a n b = false := by simp [btw, h1]
    have e' := Lib.hid e; clear e
    go_enter Tryd.func59, Tryd.ntmps59
    go_wp2
    go_ret
    simp [e'.out]

/-- A sum of the first k. -/
def sm (f : Nat → Int) : Nat → Int
  | 0 => 0
  | k + 1 => sm f k + f k
theorem sm_congr {f g : Nat → Int} : ∀ {k : Nat}, (∀ i, i < k → f i = g i) → sm f k = sm g k
  | 0, _ => rfl
  | k + 1, h => by
    show sm f k + f k = sm g k + g k
    rw [sm_congr (fun i hi => h i (by omega)), h k (by omega)]
theorem sm_bd {f : Nat → Int} {B : Int} : ∀ {k : Nat}, (∀ i, i < k → 0 ≤ f i ∧ f i ≤ B) → 0 ≤ sm f k ∧ sm f k ≤ B * k
  | 0, _ => ⟨Int.le_refl 0, by simp [sm]⟩
  | k + 1, h => by
    have a := sm_bd (f := f) (B := B) (k := k) (fun i hi => h i (by omega))
    have b := h k (by omega)
    show 0 ≤ sm f k + f k ∧ sm f k + f k ≤ B * ((k + 1 : Nat) : Int)
    rw [Int.natCast_add, Int.mul_add]
    simp only [Int.natCast_one, Int.mul_one]
    omega
theorem sm_le {f : Nat → Int} {j : Nat} : ∀ {k : Nat}, j ≤ k → (∀ i, i < k → 0 ≤ f i) → sm f j ≤ sm f k
  | 0, hj, _ => by rw [Nat.le_zero.1 hj]; exact Int.le_refl _
  | k + 1, hj, h => by
    rcases Nat.lt_or_ge k j with hl | hl
    · rw [show j = k + 1 by omega]; exact Int.le_refl _
    · have a := sm_le (f := f) hl (fun i hi => h i (by omega))
      have b := h k (by omega)
      show sm f j ≤ sm f k + f k
      omega

/-- Whether one of the first k is so. -/
def anyP (p : Nat → Bool) (k : Nat) : Bool := (List.range k).any p
theorem anyP_succ (p : Nat → Bool) (k : Nat) : anyP p (k + 1) = (anyP p k || p k) := by unfold anyP; rw [List.range_succ, List.any_append]; simp
theorem anyP_stop {p : Nat → Bool} {k n : Nat} (hk : k < n) (h : p k = true) : anyP p n = true := by unfold anyP; rw [List.any_eq_true]; exact ⟨k, List.mem_range.2 hk, h⟩
theorem anyP_none {p : Nat → Bool} {n : Nat} : anyP p n = false ↔ ∀ i, i < n → p i = false := by
  unfold anyP; rw [List.any_eq_false]
  simp only [List.mem_range, Bool.not_eq_true]

theorem sum_any (a : Option Addr) (n c : Nat) (f : Nat → Int) (w : World) (hn : n ≤ 1000) (hr : RdI w a n f) (hf : ∀ i, i < n → 0 ≤ f i ∧ f i ≤ 1000000) :
    Calls Tryd.prog 78 #[.slice a n c] w fun e w' => e = .returned (.int .i64 (sm f n)) ∧ w' = w := by
  have HR := Lib.hid hr
  have HF := Lib.hid hf
  clear hr hf
  go_enter Tryd.func78, Tryd.ntmps78
  go_wp2_with fail
  go_loopw [3, 8] (fun s i wr => ∃ k : Nat, k ≤ n ∧ i = .int .i64 k ∧ s = .int .i64 (sm f k) ∧ wr = w) (fun _ i _ => n - (intOf i).toNat)
  case atStart => exact ⟨0, Nat.zero_le _, rfl, rfl, rfl⟩
  case round =>
    obtain ⟨k, hk, rfl, rfl, rfl⟩ := hrel
    by_cases hlt : k < n
    · obtain ⟨b, o, rfl, hc⟩ := HR.out.at hlt
      have c1 := hc k hlt
      have i1 : (k : Int) < n := by omega
      obtain ⟨b1, b2⟩ := HF.out k hlt
      obtain ⟨b3, b4⟩ := sm_bd (f := f) (B := 1000000) (k := k) (fun i hi => HF.out i (by omega))
      have S := Lib.hid (show sm f (k + 1) = sm f k + f k from rfl)
      clear hc hlt
      generalize sm f k = s at *
      generalize f k = x at *
      have q1 : IntKind.i64.wrap (s + x) = s + x := IntWalk.i64_in _ (by omega)
      go_wp2_with fail
      go_roundw
      case rel => exact ⟨k + 1, by omega, by go_num, by rw [S.out], by trivial⟩
      case measure => simp [intOf]; omega
    · obtain rfl : k = n := by omega
      go_wp2_with fail
      go_ret
      exact ⟨rfl, rfl⟩

theorem Total_any (a : Option Addr) (n c : Nat) (f : Nat → Int) (w : World) (hn : n ≤ 1000) (hr : RdI w a n f) (hf : ∀ i, i < n → 0 ≤ f i ∧ f i ≤ 1000000) :
    Calls Tryd.prog 25 #[.slice a n c] w fun e w' => e = .returned (.int .i64 (sm f n)) ∧ w' = w := by
  have HR := Lib.hid hr
  have HF := Lib.hid hf
  clear hr hf
  go_enter Tryd.func25, Tryd.ntmps25
  go_wp2_with fail
  go_loopw [3, 8] (fun s i wr => ∃ k : Nat, k ≤ n ∧ i = .int .i64 k ∧ s = .int .i64 (sm f k) ∧ wr = w) (fun _ i _ => n - (intOf i).toNat)
  case atStart => exact ⟨0, Nat.zero_le _, rfl, rfl, rfl⟩
  case round =>
    obtain ⟨k, hk, rfl, rfl, rfl⟩ := hrel
    by_cases hlt : k < n
    · obtain ⟨b, o, rfl, hc⟩ := HR.out.at hlt
      have c1 := hc k hlt
      have i1 : (k : Int) < n := by omega
      obtain ⟨b1, b2⟩ := HF.out k hlt
      obtain ⟨b3, b4⟩ := sm_bd (f := f) (B := 1000000) (k := k) (fun i hi => HF.out i (by omega))
      have S := Lib.hid (show sm f (k + 1) = sm f k + f k from rfl)
      clear hc hlt
      generalize sm f k = s at *
      generalize f k = x at *
      have q1 : IntKind.i64.wrap (s + x) = s + x := IntWalk.i64_in _ (by omega)
      go_wp2_with fail
      go_roundw
      case rel => exact ⟨k + 1, by omega, by go_num, by rw [S.out], by trivial⟩
      case measure => simp [intOf]; omega
    · obtain rfl : k = n := by omega
      go_wp2_with fail
      go_ret
      exact ⟨rfl, rfl⟩

/-- The weights of a cut. -/
def kp (f g : Nat → Int) (m : Nat) : Int := sm (fun i => f (g i).toNat) m
theorem kp_bd {f g : Nat → Int} {B : Int} {n k : Nat} (hf : ∀ i, i < n → 0 ≤ f i ∧ f i ≤ B) (hg : ∀ i, i < k → 0 ≤ g i ∧ g i < n) : 0 ≤ kp f g k ∧ kp f g k ≤ B * k :=
  sm_bd fun i hi => hf _ (by have := hg i hi; omega)

theorem kept_any (a a2 : Option Addr) (n c m c2 : Nat) (f g : Nat → Int) (w : World) (hm : m ≤ 1000) (hr : RdI w a n f) (hr2 : RdI w a2 m g) (hf : ∀ i, i < n → 0 ≤ f i ∧ f i ≤ 1000000) (hg : ∀ i, i < m → 0 ≤ g i ∧ g i < n) :
    Calls Tryd.prog 64 #[.slice a n c, .slice a2 m c2] w fun e w' => e = .returned (.int .i64 (kp f g m)) ∧ w' = w := by
  have HR := Lib.hid hr
  have HR2 := Lib.hid hr2
  have HF := Lib.hid hf
  have HG := Lib.hid hg
  clear hr hf hr2 hg
  go_enter Tryd.func64, Tryd.ntmps64
  go_wp2_with fail
  go_loopw [5, 10] (fun s i wr => ∃ k : Nat, k ≤ m ∧ i = .int .i64 k ∧ s = .int .i64 (kp f g k) ∧ wr = w) (fun _ i _ => m - (intOf i).toNat)
  case atStart => exact ⟨0, Nat.zero_le _, rfl, rfl, rfl⟩
  case round =>
    obtain ⟨k, hk, rfl, rfl, rfl⟩ := hrel
    by_cases hlt : k < m
    · obtain ⟨b, o, rfl, hc⟩ := HR2.out.at hlt
      obtain ⟨g0, g1⟩ := HG.out k hlt
      obtain ⟨j, hj⟩ : ∃ j : Nat, g k = (j : Int) := ⟨(g k).toNat, by omega⟩
      have hjn : j < n := by omega
      obtain ⟨b', o', rfl, hc'⟩ := HR.out.at hjn
      have c1 := hc k hlt
      have c2 := hc' j hjn
      rw [hj] at c1
      have i1 : (k : Int) < m := by omega
      have i2 : (j : Int) < n := by omega
      obtain ⟨b1, b2⟩ := HF.out j hjn
      obtain ⟨b3, b4⟩ := kp_bd (f := f) (g := g) (B := 1000000) (n := n) (k := k) HF.out (fun i hi => HG.out i (by omega))
      have S := Lib.hid (show kp f g (k + 1) = kp f g k + f j by show kp f g k + f (g k).toNat = _; rw [hj]; rfl)
      clear hc hlt hc' hjn hj g0 g1
      generalize kp f g k = s at *
      generalize f j = x at *
      have q1 : IntKind.i64.wrap (s + x) = s + x := IntWalk.i64_in _ (by omega)
      go_wp2_with fail
      go_roundw
      case rel => exact ⟨k + 1, by omega, by go_num, by rw [S.out], by trivial⟩
      case measure => simp [intOf]; omega
    · obtain rfl : k = m := by omega
      go_wp2_with fail
      go_ret
      exact ⟨rfl, rfl⟩

theorem refkept_any (a a2 : Option Addr) (n c m c2 : Nat) (f g : Nat → Int) (w : World) (hm : m ≤ 1000) (hr : RdI w a n f) (hr2 : RdI w a2 m g) (hf : ∀ i, i < n → 0 ≤ f i ∧ f i ≤ 1000000) (hg : ∀ i, i < m → 0 ≤ g i ∧ g i < n) :
    Calls Tryd.prog 68 #[.slice a n c, .slice a2 m c2] w fun e w' => e = .returned (.int .i64 (kp f g m)) ∧ w' = w := by
  have HR := Lib.hid hr
  have HR2 := Lib.hid hr2
  have HF := Lib.hid hf
  have HG := Lib.hid hg
  clear hr hf hr2 hg
  go_enter Tryd.func68, Tryd.ntmps68
  go_wp2_with fail
  go_loopw [5, 10] (fun s i wr => ∃ k : Nat, k ≤ m ∧ i = .int .i64 k ∧ s = .int .i64 (kp f g k) ∧ wr = w) (fun _ i _ => m - (intOf i).toNat)
  case atStart => exact ⟨0, Nat.zero_le _, rfl, rfl, rfl⟩
  case round =>
    obtain ⟨k, hk, rfl, rfl, rfl⟩ := hrel
    by_cases hlt : k < m
    · obtain ⟨b, o, rfl, hc⟩ := HR2.out.at hlt
      obtain ⟨g0, g1⟩ := HG.out k hlt
      obtain ⟨j, hj⟩ : ∃ j : Nat, g k = (j : Int) := ⟨(g k).toNat, by omega⟩
      have hjn : j < n := by omega
      obtain ⟨b', o', rfl, hc'⟩ := HR.out.at hjn
      have c1 := hc k hlt
      have c2 := hc' j hjn
      rw [hj] at c1
      have i1 : (k : Int) < m := by omega
      have i2 : (j : Int) < n := by omega
      obtain ⟨b1, b2⟩ := HF.out j hjn
      obtain ⟨b3, b4⟩ := kp_bd (f := f) (g := g) (B := 1000000) (n := n) (k := k) HF.out (fun i hi => HG.out i (by omega))
      have S := Lib.hid (show kp f g (k + 1) = kp f g k + f j by show kp f g k + f (g k).toNat = _; rw [hj]; rfl)
      clear hc hlt hc' hjn hj g0 g1
      generalize kp f g k = s at *
      generalize f j = x at *
      have q1 : IntKind.i64.wrap (s + x) = s + x := IntWalk.i64_in _ (by omega)
      go_wp2_with fail
      go_roundw
      case rel => exact ⟨k + 1, by omega, by go_num, by rw [S.out], by trivial⟩
      case measure => simp [intOf]; omega
    · obtain rfl : k = m := by omega
      go_wp2_with fail
      go_ret
      exact ⟨rfl, rfl⟩

end Go.Proofs.YtohcnicadbpbbaaDoor
