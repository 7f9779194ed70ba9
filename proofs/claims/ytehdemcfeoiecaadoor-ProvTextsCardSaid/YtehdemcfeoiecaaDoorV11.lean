/- Contracts of chapter 9: whether two sums are the same. -/
import Derived.Test.YtehdemcfeoiecaaDoorV10
import Derived.Test.YtehdemcfeoiecaaDoorW5
namespace Go.Proofs.YtehdemcfeoiecaaDoor
open Go.RowKit Go.Firn Go.Shelf Go.Maps Go.WideMaps

set_option maxRecDepth 100000 in
set_option maxHeartbeats 4000000 in
theorem same_any (a a' : Option Addr) (n c c' : Nat) (f : Nat → ByteArray) (g : Nat → Int) (w : World) (hn : n ≤ 9223372036854775807) (hr : RdS w a n f g) (hr' : RdS w a' n f g) :
    Calls Tryd.prog 21 #[.slice a n c, .slice a' n c'] w (RetB true w) := by
  have HR := Lib.hid hr
  have HR' := Lib.hid hr'
  clear hr hr'
  go_enter Tryd.func21, Tryd.ntmps21
  go_wp2
  go_loopw [13] (fun si wr => ∃ k : Nat, k ≤ n ∧ si = .int .i64 k ∧ Hid (Gr w wr)) (fun si _ => n - (intOf si).toNat)
  case atStart => exact ⟨0, Nat.zero_le _, rfl, Gr.refl w⟩
  case round =>
    obtain ⟨k, hk, rfl, HG⟩ := hrel
    by_cases hlt : k < n
    · have i1 : (k : Int) < (n : Int) := by omega
      obtain ⟨b, o, rfl, hc⟩ := (HR.out.gr HG.out).at hlt
      obtain ⟨k0, k1⟩ := hc k hlt
      obtain ⟨b', o', rfl, hc'⟩ := (HR'.out.gr HG.out).at hlt
      obtain ⟨j0, j1⟩ := hc' k hlt
      clear hc hc'
      generalize f k = s at *
      generalize g k = m at *
      go_wp2
      go_quiet (fail)
      have G2 := Lib.hid (HG.out.drewN nq)
      go_wp2
      exact ⟨⟨k + 1, hlt, by go_num, G2⟩, by simp [intOf]; omega⟩
    · obtain rfl : k = n := by omega
      have i1 : ¬ (k : Int) < (k : Int) := by omega
      go_wp2
      go_ret
      exact ⟨rfl, HG.out⟩

end Go.Proofs.YtehdemcfeoiecaaDoor
