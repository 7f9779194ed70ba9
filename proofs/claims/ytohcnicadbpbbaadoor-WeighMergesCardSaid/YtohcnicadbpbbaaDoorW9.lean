/- Contracts of chapter 7: which outcome comes first. -/
import Derived.Test.YtohcnicadbpbbaaDoorW8
namespace Go.Proofs.YtohcnicadbpbbaaDoor
open Go.RowKit Go.Firn

theorem isNaN_any (x : Int) (w : World) : Calls Tryd.prog 106 #[.int .i64 x] w fun e w' => e = .returned (.bool false) ∧ w' = w := by
  go_enter Tryd.func106, Tryd.ntmps106
  go_wp2
  go_ret
  exact ⟨rfl, rfl⟩

/-- The sign of a comparison. -/
def cmpI (x y : Int) : Int := if x < y then -1 else if y < x then 1 else 0
theorem Compare_any (x y : Int) (w : World) : Calls Tryd.prog 94 #[.int .i64 x, .int .i64 y] w fun e w' => e = .returned (.int .i64 (cmpI x y)) ∧ w' = w := by
  rcases Int.lt_trichotomy x y with h | h | h
  · have e : cmpI x y = -1 := by simp [cmpI, h]
    rw [e]
    have d1 : decide (x < y) = true := by simp; omega
    go_enter Tryd.func94, Tryd.ntmps94
    go_wp2_with (go_at_call 106; refine (isNaN_any _ _).mono ?_; rintro e w1 ⟨rfl, rfl⟩)
    go_ret
    exact ⟨rfl, rfl⟩
  · have e : cmpI x y = 0 := by simp [cmpI, h]
    rw [e]
    have d1 : decide (x < y) = false := by simp; omega
    have d2 : decide (y < x) = false := by simp; omega
    clear h
    go_enter Tryd.func94, Tryd.ntmps94
    go_wp2_with (go_at_call 106; refine (isNaN_any _ _).mono ?_; rintro e w1 ⟨rfl, rfl⟩)
    go_ret
    exact ⟨rfl, rfl⟩
  · have e : cmpI x y = 1 := by simp [cmpI, h]; omega
    rw [e]
    have d1 : decide (x < y) = false := by simp; omega
    have d2 : decide (y < x) = true := by simp; omega
    clear h
    go_enter Tryd.func94, Tryd.ntmps94
    go_wp2_with (go_at_call 106; refine (isNaN_any _ _).mono ?_; rintro e w1 ⟨rfl, rfl⟩)
    go_ret
    exact ⟨rfl, rfl⟩

/-- The first of two numbers that is not 0. -/
def orI (p q : Int) : Int := if p = 0 then q else p
theorem Or_any (b o : Nat) (p q : Int) (w : World) (h0 : w.cell? ⟨b, o, none⟩ = some (.int .i64 p)) (h1 : w.cell? ⟨b, o + 1, none⟩ = some (.int .i64 q)) :
    Calls Tryd.prog 93 #[.slice (some ⟨b, o, none⟩) 2 2] w fun e w' => e = .returned (.int .i64 (orI p q)) ∧ w' = w := by
  go_enter Tryd.func93, Tryd.ntmps93
  go_wp2_with fail
  go_loopw [8] (fun i wr => ∃ k : Nat, k ≤ 2 ∧ i = .int .i64 k ∧ Hid (1 ≤ k → p = 0) ∧ Hid (2 ≤ k → q = 0) ∧ wr = w) (fun i _ => 2 - (intOf i).toNat)
  case atStart => exact ⟨0, by omega, rfl, Lib.hid (by omega), Lib.hid (by omega), rfl⟩
  case round =>
    obtain ⟨k, hk, rfl, A, B, rfl⟩ := hrel
    rcases (show k = 0 ∨ k = 1 ∨ k = 2 by omega) with rfl | rfl | rfl
    · by_cases hp : p = 0
      · have t1 : (p != 0) = false := by simp [hp]
        clear h1
        go_wp2_with fail
        go_roundw
        case rel => exact ⟨1, by omega, rfl, Lib.hid (fun _ => hp), Lib.hid (by omega), by trivial⟩
        case measure => simp [intOf]
      · have t1 : (p != 0) = true := by simp [hp]
        have E := Lib.hid (show orI p q = p from if_neg hp)
        clear h1 hp
        go_wp2_with fail
        go_ret
        rw [E.out]
        exact ⟨rfl, rfl⟩
    · have P := Lib.hid (A.out (by omega))
      have E := Lib.hid (show orI p q = q from if_pos P.out)
      by_cases hq : q = 0
      · have t1 : (q != 0) = false := by simp [hq]
        clear h0
        go_wp2_with fail
        go_roundw
        case rel => exact ⟨2, by omega, rfl, Lib.hid (fun _ => P.out), Lib.hid (fun _ => hq), by trivial⟩
        case measure => simp [intOf]
      · have t1 : (q != 0) = true := by simp [hq]
        clear h0 hq
        go_wp2_with fail
        go_ret
        rw [E.out]
        exact ⟨rfl, rfl⟩
    · have E := Lib.hid (show orI p q = 0 by rw [A.out (by omega), B.out (by omega)]; rfl)
      clear h0 h1
      go_wp2_with fail
      go_ret
      rw [E.out]
      exact ⟨rfl, rfl⟩

/-- Whether an outcome has neither noise nor signal. -/
def nth (f g : Nat → Int) (a : Nat) : Int := if f a + g a = 0 then 1 else 0
theorem compare1_any (a a2 : Option Addr) (n c d b : Nat) (f g : Nat → Int) (i : Nat) (u v : Value) (w : World) (hi : i < n) (hr : RdI w a n f) (hs : RdI w a2 n g)
    (hf : 0 ≤ f i ∧ f i ≤ 1000) (hg : 0 ≤ g i ∧ g i ≤ 1000) (hb : Box4 w b (.slice a n c) (.slice a2 n d) u v) :
    Calls Tryd.prog 92 #[.int .i64 i, .pointer (some ⟨b, 0, none⟩)] w fun e w' => e = .returned (.int .i64 (nth f g i)) ∧ ∃ m, w' = w.drewN m := by
  obtain ⟨b1, o1, rfl, hc⟩ := hr.at hi
  obtain ⟨b2, o2, rfl, hc'⟩ := hs.at hi
  have c1 := hc i hi
  have c2 := hc' i hi
  obtain ⟨p0, p1, _⟩ := hb
  have i1 : (i : Int) < n := by omega
  clear hc hc' hr hs
  by_cases h : f i + g i = 0
  · rw [show nth f g i = 1 from if_pos h]
    generalize f i = x at *
    generalize g i = y at *
    have q1 : IntKind.i64.wrap (x + y) = x + y := IntWalk.i64_in _ (by omega)
    have t1 : (x + y == 0) = true := by simp [h]
    clear h hf hg
    go_enter Tryd.func92, Tryd.ntmps92
    go_wp2_with fail
    go_quiet (fail)
    go_wp2_with fail
    go_ret
    exact ⟨rfl, _, rfl⟩
  · rw [show nth f g i = 0 from if_neg h]
    generalize f i = x at *
    generalize g i = y at *
    have q1 : IntKind.i64.wrap (x + y) = x + y := IntWalk.i64_in _ (by omega)
    have t1 : (x + y == 0) = false := by simp [h]
    clear h hf hg
    go_enter Tryd.func92, Tryd.ntmps92
    go_wp2_with fail
    go_quiet (fail)
    go_wp2_with fail
    go_ret
    exact ⟨rfl, _, rfl⟩

end Go.Proofs.YtohcnicadbpbbaaDoor
