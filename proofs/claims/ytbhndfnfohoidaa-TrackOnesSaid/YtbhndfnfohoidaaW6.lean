/- Contracts of chapter 5: slices.Contains of ints. -/
import Derived.Test.YtbhndfnfohoidaaWA
import Derived.Test.YtbhndfnfohoidaaQA
namespace Go.Proofs.Ytbhndfnfohoidaa
open Go.RowKit Go.Firn

theorem Index_any (a : Option Addr) (n c : Nat) (l : Nat → Int) (x : Int) (w : World) (hn : n ≤ 1000) (hr : RdI w a n l) :
    Calls Try.prog 102 #[.slice a n c, .int .i64 x] w fun e w' => ∃ z : Int, e = .returned (.int .i64 z) ∧ decide (0 ≤ z) = anyI l n x ∧ w = w' := by
  have HR := Lib.hid hr
  clear hr
  go_enter Try.func102, Try.ntmps102
  go_wp2_with fail
  go_loop [8] (fun i => ∃ k : Nat, k ≤ n ∧ i = .int .i64 k ∧ Hid (anyI l k x = false)) (fun i => n - (intOf i).toNat)
  case atStart => exact ⟨0, Nat.zero_le _, rfl, rfl⟩
  case round =>
    obtain ⟨k, hk, rfl, Hi⟩ := hrel
    by_cases hlt : k < n
    · obtain ⟨b, o, rfl, hc⟩ := HR.out.at hlt
      have c1 := hc k hlt
      have i1 : (k : Int) < n := by omega
      have S := Lib.hid (anyI_succ l k x)
      have ST := Lib.hid (fun h => anyI_stop (l := l) (x := x) hlt h)
      clear hc hlt
      generalize l k = y at *
      by_cases e : y = x
      · subst e
        have S1 := Lib.hid (ST.out rfl)
        have t1 : (y == y) = true := by simp
        go_wp2_with fail
        go_ret
        exact ⟨(k : Int), rfl, by rw [S1.out]; simp, rfl⟩
      · have t1 : (x == y) = false := by simp; omega
        have S' := Lib.hid (show anyI l (k + 1) x = false by rw [S.out, Hi.out]; simp [e])
        clear e
        go_wp2_with fail
        go_roundw
        case rel => exact ⟨k + 1, by omega, by go_num, S'⟩
        case measure => simp [intOf]; omega
    · obtain rfl : k = n := by omega
      go_wp2_with fail
      go_ret
      exact ⟨-1, rfl, by rw [Hi.out]; rfl, rfl⟩
theorem Contains_any (a : Option Addr) (n c : Nat) (l : Nat → Int) (x : Int) (w : World) (hn : n ≤ 1000) (hr : RdI w a n l) :
    Calls Try.prog 87 #[.slice a n c, .int .i64 x] w fun e w' => e = .returned (.bool (anyI l n x)) ∧ w = w' := by
  have C := Lib.hid (Index_any a n c l x w hn hr)
  clear hr
  go_enter Try.func87, Try.ntmps87
  go_wp2_with (go_at_call 102; (with_reducible refine C.out.mono ?_); rintro e w1 ⟨z, rfl, hz, rfl⟩; have HZ := Lib.hid hz; clear hz)
  go_ret
  rw [← HZ.out]
  exact ⟨rfl, rfl⟩

end Go.Proofs.Ytbhndfnfohoidaa
