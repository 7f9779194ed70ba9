/- Contracts of chapter 5: SameRatios. -/
import Derived.Test.YtbhndfnfohoidaaW17
namespace Go.Proofs.Ytbhndfnfohoidaa
open Go.RowKit Go.Firn

set_option maxHeartbeats 1000000 in
theorem SameRatios_t (a a' : Option Addr) (n c c' : Nat) (f g : Nat → Int) (w : World) (hn : n ≤ 9223372036854775807) (hr : RdM w a n f g) (hr' : RdM w a' n f g) :
    Calls Try.prog 32 #[.slice a n c, .slice a' n c'] w (RetB true w) := by
  go_enter Try.func32, Try.ntmps32
  go_wp2
  go_loopw [13] (fun i wr => ∃ k : Nat, k ≤ n ∧ i = .int .i64 k ∧ Gr w wr) (fun i _ => n - (intOf i).toNat)
  case atStart => exact ⟨0, by omega, rfl, Gr.refl w⟩
  case round =>
    obtain ⟨k, hk, rfl, hg⟩ := hrel
    by_cases hlt : k < n
    · obtain ⟨b, o, rfl, hc⟩ := hr.at hlt
      obtain ⟨b', o', rfl, hc'⟩ := hr'.at hlt
      have c1 := hg.cell (hc k hlt).1
      have c2 := hg.cell (hc k hlt).2
      have c3 := hg.cell (hc' k hlt).1
      have c4 := hg.cell (hc' k hlt).2
      clear hc hr hc' hr'
      have i3 : (0 : Int) ≤ (k : Int) := by omega
      have i4 : (k : Int) < n := by omega
      generalize f k = x at *
      generalize g k = y at *
      go_wp2
      go_quiet (fail)
      go_wp2
      go_roundw
      case rel => exact ⟨k + 1, by omega, by go_num, hg.drewN _⟩
      case measure => simp [intOf]; omega
    · have : k = n := by omega
      subst this
      go_wp2_with fail
      go_ret
      exact ⟨rfl, hg⟩

end Go.Proofs.Ytbhndfnfohoidaa
