/- Opening an argument that is a struct of two slices of ints. -/
import Derived.Test.YtohcnicadbpbbaaQB
import Derived.ChangeSlices
namespace Go.Firn
open Go.RowKit Go.Deep Go.ChangeShapes

section
variable {H : Type} {enc : TypeId × Value → H} {P : Program} {w : World} {base : Nat} {held : Bool}

theorem IsRow.of_trod {S E : TypeId} {fuel : Nat} {v : Value} {x : DataW H × List MemPlace} (hS : P.underlying S = some (.slice E)) (hE : P.underlying E = some (.int .i64)) (cE : P.cellsOf E = 1)
    (h : DataW.trod enc P w base (fun _ => true) held fuel S [v] = some x) : ∃ a n c zs, v = .slice a n c ∧ IsRow w a n c zs := by
  rcases open_ints hS hE cE h with ⟨hcs, _⟩ | ⟨x, l, c, zs, hcs, _, hl, hm, hz, _, hcell, hwz⟩
  · simp only [List.cons.injEq, and_true] at hcs
    exact ⟨none, 0, 0, [], hcs, .inl ⟨rfl, rfl, rfl, rfl⟩⟩
  · simp only [List.cons.injEq, and_true] at hcs
    exact ⟨_, _, _, zs, hcs, .inr ⟨_, rfl, hl, hm, by simpa using hz, hcell, hwz⟩⟩

theorem open_two {r : Reach} {b0 : Nat} {t S E : TypeId} {f0 f1 : Field} {v : Value} {d : DataW H} {p : List MemPlace} (hs : P.underlying t = some (.struct #[f0, f1])) (hone : oneCellFields P #[f0, f1] = true) (hC : P.cellsOf t = 2)
    (h0 : f0.type = S) (h1 : f1.type = S) (hS : P.underlying S = some (.slice E)) (hE : P.underlying E = some (.int .i64)) (cE : P.cellsOf E = 1)
    (hv : Value.okWide P w r b0 t v) (h : DataW.Trod enc P w base (fun _ => true) held t v d p) :
    ∃ a n c zs a2 m d2 ys, v = .agg #[.slice a n c, .slice a2 m d2] ∧ IsRow w a n c zs ∧ IsRow w a2 m d2 ys := by
  obtain ⟨c0, c1, y0, y1, n, rfl, _, _, g0, g1⟩ := Joins.open_agg2 hs hone hC hv h
  rw [h0] at g0
  rw [h1] at g1
  obtain ⟨a, n, c, zs, rfl, k0⟩ := IsRow.of_trod hS hE cE g0
  obtain ⟨a2, m, d2, ys, rfl, k1⟩ := IsRow.of_trod hS hE cE g1
  exact ⟨a, n, c, zs, a2, m, d2, ys, rfl, k0, k1⟩
end

/-- What a walk is told of a struct of two slices of ints: nothing behind their lengths, and at most so long as a walk bears. -/
theorem IsRow.clip {w : World} {a : Option Addr} {n c : Nat} {zs : List Int} (h : IsRow w a n c zs) :
    n ≤ 9223372036854775807 ∧ n ≤ c ∧ c ≤ maxLen ∧ ∃ f : Nat → Int, (∀ i, n ≤ i → f i = 0) ∧ RdI w a n f := by
  have k := h.rd
  refine ⟨k.1, ?_, ?_, fun i => if i < n then zs.getD i 0 else 0, fun i hi => if_neg (by omega), k.2.congr fun i hi => by rw [if_pos hi]⟩
  · rcases h with ⟨rfl, rfl, rfl, rfl⟩ | ⟨x, rfl, hl, hm, _⟩
    · exact Nat.le_refl _
    · exact hl
  · rcases h with ⟨rfl, rfl, rfl, rfl⟩ | ⟨x, rfl, hl, hm, _⟩
    · unfold maxLen; omega
    · exact hm

end Go.Firn
