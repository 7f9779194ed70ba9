/- Opening an argument that is a struct of three ints. -/
import Derived.Test.YtbhndfnfohoidaaQB
namespace Go.Firn
open Go.RowKit Go.Deep

section
variable {H : Type} {P : Program} {enc : TypeId × Value → H} {w : World} {base : Nat} {spare : Nat → Bool} {held : Bool}
theorem open_triple {r : Reach} {b0 : Nat} {t E : TypeId} {f0 f1 f2 : Field} {v : Value} {d : DataW H} {p : List MemPlace} (hs : P.underlying t = some (.struct #[f0, f1, f2])) (hone : oneCellFields P #[f0, f1, f2] = true) (hC : P.cellsOf t = 3)
    (h0 : f0.type = E) (h1 : f1.type = E) (h2 : f2.type = E) (hE : P.underlying E = some (.int .i64))
    (hv : Value.okWide P w r b0 t v) (h : DataW.Trod enc P w base spare held t v d p) :
    ∃ x y z : Int, v = .agg #[.int .i64 x, .int .i64 y, .int .i64 z] ∧ (Lit.int .i64 x).wf = true ∧ (Lit.int .i64 y).wf = true ∧ (Lit.int .i64 z).wf = true := by
  obtain ⟨c0, c1, c2, y0, y1, y2, n, rfl, _, _, g0, g1, g2⟩ := Joins.open_agg3 hs hone hC hv h
  rw [h0] at g0
  rw [h1] at g1
  rw [h2] at g2
  obtain ⟨p, hp, _, wp⟩ := DataW.trod_int hE g0
  obtain ⟨q, hq, _, wq⟩ := DataW.trod_int hE g1
  obtain ⟨s, hs', _, ws⟩ := DataW.trod_int hE g2
  simp only [List.cons.injEq, and_true] at hp hq hs'
  subst hp hq hs'
  exact ⟨p, q, s, rfl, wp, wq, ws⟩
end

end Go.Firn
