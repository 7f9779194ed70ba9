/- Contracts of the small functions of chapter 1: between, many, IsBits, counted, size, closures over one int. -/
import Derived.Test.YtdlbgelidcfmiaaGreatDoorRows
import Derived.Test.YtdlbgelidcfmiaaGreatDoorP1
import Derived.WalkKit
import Derived.WalkSpells
import Derived.WalkLawsBesides
import Derived.Deep.QuietTactic
import Derived.BigQuiet
import Derived.Lib.Hide
namespace Go.Proofs.YtdlbgelidcfmiaaGreatDoor
open Go.RowKit

set_option maxHeartbeats 400000 in
theorem between_any (a n b : Int) (w : World) :
    Calls Tryz.prog 38 #[.int .i64 a, .int .i64 n, .int .i64 b] w fun e w' => e = .returned (.bool (btw a n b)) ∧ w = w' := by
  by_cases h1 : a ≤ n
  · have e : btw a n b = decide (n ≤ b) := by simp [btw, h1]
    go_enter Tryz.func38, Tryz.ntmps38
    go_wp2
    go_ret
    simp [e]
  · have e : btw a n b = false := by simp [btw, h1]
    have e' := Lib.hid e; clear e
    go_enter Tryz.func38, Tryz.ntmps38
    go_wp2
    go_ret
    simp [e'.out]

theorem IsBits_any (b : Int) (w : World) :
    Calls Tryz.prog 23 #[.int .i64 b] w fun e w' => e = .returned (.bool (isBits b)) ∧ w = w' := by
  by_cases h1 : 4 ≤ b
  · have e : isBits b = decide (b ≤ 32) := by simp [isBits, btw, h1]
    go_enter Tryz.func23, Tryz.ntmps23
    go_wp2
    go_ret
    simp [e]
  · have e : isBits b = false := by simp [isBits, btw, h1]
    have e' := Lib.hid e; clear e
    go_enter Tryz.func23, Tryz.ntmps23
    go_wp2
    go_ret
    simp [e'.out]

/-- The error of a counter. -/
def errOf (b : Int) (v : Bool) : Int := if isBits b then (if v then 0 else 10) else 2

theorem counted_any (b : Int) (v : Bool) (w : World) :
    Calls Tryz.prog 21 #[.int .i64 b, .bool v] w fun e w' => e = .returned (.int .i64 (errOf b v)) ∧ w = w' := by
  by_cases hb : btw 4 b 32 = true
  · cases v
    all_goals
      have e := hb
      go_enter Tryz.func21, Tryz.ntmps21
      go_wp2_with (go_at_call 38; refine (between_any _ _ _ _).mono ?_; rintro e w' ⟨rfl, rfl⟩)
      go_ret
      simp [errOf, isBits, e]
  · have hb' : btw 4 b 32 = false := by simpa using hb
    clear hb
    go_enter Tryz.func21, Tryz.ntmps21
    go_wp2_with (go_at_call 38; refine (between_any _ _ _ _).mono ?_; rintro e w' ⟨rfl, rfl⟩)
    go_ret
    simp [errOf, isBits, hb']

theorem pw_eq (b : Int) : ((2 : Int) ^ b.toNat) = pw b := by unfold pw; rw [Int.natCast_pow]; rfl

/-- 1 << b, as the walk writes it. -/
theorem shl_pw {b : Int} (h2 : b ≤ 32) : wrap64 ((2 : Int) ^ b.toNat) = pw b := by
  have e : ((2 : Int) ^ b.toNat) = pw b := by unfold pw; rw [Int.natCast_pow]; rfl
  rw [e]
  exact IntWalk.wrap64_in _ ⟨by have := pw_pos b; omega, by have := pw_le h2; omega⟩

theorem shl_pwk {b : Int} (h2 : b ≤ 32) : IntKind.i64.wrap ((2 : Int) ^ b.toNat) = pw b := by rw [IntWalk.i64_left]; exact shl_pw h2

theorem size_any (b : Int) (w : World) (h1 : 4 ≤ b) (h2 : b ≤ 32) :
    Calls Tryz.prog 24 #[.int .i64 b] w fun e w' => e = .returned (.int .i64 (pw b)) ∧ w = w' := by
  go_enter Tryz.func24, Tryz.ntmps24
  go_wp2
  go_loop [3, 5] (fun n i => ∃ k : Nat, (k : Int) ≤ b ∧ i = .int .i64 k ∧ n = .int .i64 (pw k)) (fun _ i => (b - intOf i).toNat)
  case atStart => exact ⟨0, by omega, rfl, rfl⟩
  case round =>
    obtain ⟨k, hk, rfl, rfl⟩ := hrel
    have hb0 := pw_pos k
    have hb1 : pw k ≤ 4294967296 := pw_le (by omega)
    have hs' := Lib.hid (pw_succ k)
    by_cases hlt : (k : Int) < b
    · go_wp2
      go_round
      case rel => exact ⟨k + 1, by omega, by go_num, by rw [hs'.out]⟩
      case measure => simp [intOf]; omega
    · have : b = k := by omega
      subst this
      go_wp2
      go_ret
      simp

theorem size_any' (b : Int) (w : World) (h1 : 4 ≤ b) (h2 : b ≤ 32) :
    Calls Tryz.prog 24 #[.int .i64 b] w fun e w' => e = .returned (.int .i64 (pw b)) ∧ w' = w :=
  (size_any b w h1 h2).mono fun _ _ ⟨h, e⟩ => ⟨h, e.symm⟩

end Go.Proofs.YtdlbgelidcfmiaaGreatDoor
