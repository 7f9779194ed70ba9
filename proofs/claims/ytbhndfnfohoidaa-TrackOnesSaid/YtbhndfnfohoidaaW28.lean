/- Opening an argument that is a slice: it has room for its length. -/
import Derived.Test.YtbhndfnfohoidaaQB
namespace Go.Firn
open Go.RowKit

section
variable {H : Type} {enc : TypeId × Value → H} {P : Program} {w : World} {base : Nat} {spare : Nat → Bool} {held : Bool}
theorem slice_le {t e : TypeId} {fuel : Nat} {a : Option Addr} {len cap : Nat} {x : DataW H × List MemPlace} (ht : P.underlying t = some (.slice e)) (h : DataW.trod enc P w base spare held fuel t [.slice a len cap] = some x) : len ≤ cap := by
  rcases DataW.trod_slice ht h with h0 | ⟨_, _, _, _, _, _, _, hcs, _, _, hl, _⟩
  · have h1 := h0.1
    simp at h1
    obtain ⟨_, rfl, rfl⟩ := h1
    exact Nat.le_refl _
  · simp at hcs
    obtain ⟨_, rfl, rfl⟩ := hcs
    exact hl
end
end Go.Firn
