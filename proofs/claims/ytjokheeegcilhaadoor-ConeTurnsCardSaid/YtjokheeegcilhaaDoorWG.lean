/- Contracts of chapter 2: how many hits are within a time, and the reference's most and first trigger. -/
import Derived.Test.YtjokheeegcilhaaDoorPC
import Derived.Test.YtjokheeegcilhaaDoorW3
namespace Go.Proofs.YtjokheeegcilhaaDoor
open Go.RowKit Go.Firn

theorem wr64 {x : Int} (h : -1000000000000000000 ≤ x ∧ x ≤ 1000000000000000000) : IntKind.i64.wrap x = x ∧ wrap64 x = x := ⟨IntWalk.i64_in _ (by omega), IntWalk.wrap64_in _ (by omega)⟩
theorem inW_btw (t w x : Int) : inW t w x = btw t x (t + w) := rfl

set_option maxHeartbeats 1000000 in
theorem from_any (adr : Option Addr) (n c : Nat) (P T : Nat → Int) (t wi : Int) (w : World) (hn : n ≤ 14) (ht : -3000 ≤ t ∧ t ≤ 3000) (hwi : 0 ≤ wi ∧ wi ≤ 4000) (hr : RdM w adr n P T) :
    Calls Tryd.prog 92 #[.slice adr n c, .int .i64 t, .int .i64 wi] w fun e w' => e = .returned (.int .i64 (cnT T n wi t : Nat)) ∧ w = w' := by
  obtain ⟨q1, q2⟩ := wr64 (x := t + wi) (by omega)
  go_enter Tryd.func92, Tryd.ntmps92
  go_wp2
  go_loop [7, 8] (fun s i => ∃ k : Nat, k ≤ n ∧ i = .int .i64 k ∧ s = .int .i64 (cnT T k wi t : Nat)) (fun _ i => n - (intOf i).toNat)
  case atStart => exact ⟨0, Nat.zero_le _, rfl, rfl⟩
  case round =>
    obtain ⟨k, hk, rfl, rfl⟩ := hrel
    by_cases hlt : k < n
    · obtain ⟨b, o, rfl, hc⟩ := hr.at hlt
      obtain ⟨_, ck⟩ := hc k hlt
      have k1 : (k : Int) < (n : Int) := by omega
      have le := cnT_le T wi t k
      have C := Lib.hid (fun w1 => within_any t (T k) (t + wi) w1)
      have E := Lib.hid (cnT_succ T k wi t)
      obtain ⟨q3, q4⟩ := wr64 (x := (cnT T k wi t : Nat) + 1) (by clear q1 q2; omega)
      rw [← inW_btw] at C
      cases hb : inW t wi (T k) with
      | true =>
        rw [hb] at C
        have E1 := Lib.hid (show cnT T (k + 1) wi t = cnT T k wi t + 1 by rw [E.out, hb]; rfl)
        clear hb hc hr le E
        generalize T k = x at *
        generalize cnT T k wi t = s at *
        go_wp2_with (go_at_call 72; (with_reducible refine (C.out _).mono ?_); rintro e w1 ⟨rfl, rfl⟩)
        go_roundw
        case rel => exact ⟨k + 1, hlt, by go_num, by rw [E1.out]; go_num⟩
        case measure => simp [intOf]; omega
      | false =>
        rw [hb] at C
        have E1 := Lib.hid (show cnT T (k + 1) wi t = cnT T k wi t by rw [E.out, hb]; rfl)
        clear hb hc hr le E
        generalize T k = x at *
        generalize cnT T k wi t = s at *
        go_wp2_with (go_at_call 72; (with_reducible refine (C.out _).mono ?_); rintro e w1 ⟨rfl, rfl⟩)
        go_roundw
        case rel => exact ⟨k + 1, hlt, by go_num, by rw [E1.out]⟩
        case measure => simp [intOf]; omega
    · obtain rfl : k = n := by omega
      have k1 : ¬ (k : Int) < (k : Int) := by omega
      go_wp2
      go_ret
      exact ⟨rfl, rfl⟩

end Go.Proofs.YtjokheeegcilhaaDoor
