/- Contracts of the small functions of chapter 1: between, many, IsBits, counted, size, closures over one int. -/
import Derived.Test.YtdlbgelidcfmiaaDoorRows
import Derived.Test.YtdlbgelidcfmiaaDoorP1
import Derived.WalkKit
import Derived.WalkSpells
import Derived.WalkLawsBesides
import Derived.Deep.QuietTactic
import Derived.BigQuiet
import Derived.Lib.Hide
namespace Go.Proofs.YtdlbgelidcfmiaaDoor
open Go.RowKit

set_option maxHeartbeats 400000 in
theorem between_any (a n b : Int) (w : World) :
    Calls Tryd.prog 20 #[.int .i64 a, .int .i64 n, .int .i64 b] w fun e w' => e = .returned (.bool (btw a n b)) ∧ w = w' := by
  by_cases h1 : a ≤ n
  · have e : btw a n b = decide (n ≤ b) := by simp [btw, h1]
    go_enter Tryd.func20, Tryd.ntmps20
    go_wp2
    go_ret
    simp [e]
  · have e : btw a n b = false := by simp [btw, h1]
    have e' := Lib.hid e; clear e
    go_enter Tryd.func20, Tryd.ntmps20
    go_wp2
    go_ret
    simp [e'.out]

/-- The error of a counter. -/
def errOf (b : Int) (v : Bool) : Int := if isBits b then (if v then 0 else 10) else 2

theorem counted_any (b : Int) (v : Bool) (w : World) :
    Calls Tryd.prog 29 #[.int .i64 b, .bool v] w fun e w' => e = .returned (.int .i64 (errOf b v)) ∧ w = w' := by
  by_cases hb : btw 4 b 32 = true
  · cases v
    all_goals
      have e := hb
      go_enter Tryd.func29, Tryd.ntmps29
      go_wp2_with (go_at_call 20; refine (between_any _ _ _ _).mono ?_; rintro e w' ⟨rfl, rfl⟩)
      go_ret
      simp [errOf, isBits, e]
  · have hb' : btw 4 b 32 = false := by simpa using hb
    clear hb
    go_enter Tryd.func29, Tryd.ntmps29
    go_wp2_with (go_at_call 20; refine (between_any _ _ _ _).mono ?_; rintro e w' ⟨rfl, rfl⟩)
    go_ret
    simp [errOf, isBits, hb']

theorem pw_eq (b : Int) : ((2 : Int) ^ b.toNat) = pw b := by unfold pw; rw [Int.natCast_pow]; rfl

/-- 1 << b, as the walk writes it. -/
theorem shl_pw {b : Int} (h2 : b ≤ 32) : wrap64 ((2 : Int) ^ b.toNat) = pw b := by
  have e : ((2 : Int) ^ b.toNat) = pw b := by unfold pw; rw [Int.natCast_pow]; rfl
  rw [e]
  exact IntWalk.wrap64_in _ ⟨by have := pw_pos b; omega, by have := pw_le h2; omega⟩

theorem shl_pwk {b : Int} (h2 : b ≤ 32) : IntKind.i64.wrap ((2 : Int) ^ b.toNat) = pw b := by rw [IntWalk.i64_left]; exact shl_pw h2

end Go.Proofs.YtdlbgelidcfmiaaDoor
