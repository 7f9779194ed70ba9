/- Opening an argument that is a slice of slices of ints. -/
import Derived.Test.YtjokheeegcilhaaDoorFra
import Derived.Test.YtjokheeegcilhaaDoorCow
import Derived.Deep.Matrix
namespace Go.Firn
open Go.RowKit Go.Deep
section
variable {H : Type} {enc : TypeId × Value → H} {P : Program} {w : World} {base : Nat} {held : Bool}
theorem RdT.of_trod {t e E : TypeId} {fuel : Nat} {a : Option Addr} {len cap : Nat} {x : DataW H × List MemPlace} (ht : P.underlying t = some (.slice e)) (he : P.underlying e = some (.slice E)) (hE : P.underlying E = some (.int .i64))
    (ce : P.cellsOf e = 1) (cE : P.cellsOf E = 1) (h : DataW.trod enc P w base (fun _ => true) held fuel t [.slice a len cap] = some x) :
    ∃ r : Nat → Nat × (Nat → Int), len ≤ 9223372036854775807 ∧ len ≤ cap ∧ RdT w a len r := by
  rcases open_int_rows ht he hE ce cE h with ⟨hcs, _⟩ | ⟨ad, l, c, A, L, C, Z, hcs, _, hl, hm, _, hx⟩
  · simp only [List.cons.injEq, and_true, Value.slice.injEq] at hcs
    obtain ⟨rfl, rfl, rfl⟩ := hcs
    exact ⟨fun _ => (0, fun _ => 0), by omega, Nat.le_refl _, .inl rfl⟩
  · simp only [List.cons.injEq, and_true, Value.slice.injEq] at hcs
    obtain ⟨rfl, rfl, rfl⟩ := hcs
    refine ⟨fun i => (L i, fun j => (Z i).getD j 0), by unfold maxLen at hm; omega, hl, ?_⟩
    by_cases hz : len = 0
    · exact .inl hz
    right
    have hs : ad.spot = none := by
      have := World.cell?_spot (hx 0 (by omega)).1
      simpa [Addr.add] using this
    refine ⟨ad.block, ad.off, by rw [← hs], fun i hi => ?_⟩
    obtain ⟨g0, g1, g2, g3, _, g4, g5⟩ := hx i (by omega)
    rw [add_flat hs] at g0
    refine ⟨A i, C i, g0, g1, g2, ?_⟩
    by_cases hzi : L i = 0
    · exact .inl hzi
    right
    cases hA : A i with
    | none => have := g4 hA; omega
    | some a' =>
      obtain ⟨_, hc⟩ := g5 a' hA
      have hs' : a'.spot = none := by
        have := World.cell?_spot (hc 0 (by omega))
        simpa [Addr.add] using this
      refine ⟨a'.block, a'.off, by rw [← hs'], fun j hj => ?_⟩
      have := hc j (Nat.lt_of_lt_of_le hj g1)
      rw [add_flat hs'] at this
      exact this
end
end Go.Firn
