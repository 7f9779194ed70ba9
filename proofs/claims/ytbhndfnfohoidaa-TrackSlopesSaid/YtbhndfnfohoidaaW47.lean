/- Opening an argument that is an array of two structs of two ints. -/
import Derived.Test.YtbhndfnfohoidaaQB
namespace Go.Firn
open Go.RowKit Go.Deep

section
variable {H : Type} {P : Program} {enc : TypeId × Value → H} {w : World} {base : Nat} {spare : Nat → Bool} {held : Bool}
theorem open_arr2s {r : Reach} {b0 : Nat} {t S E : TypeId} {f0 f1 : Field} {v : Value} {d : DataW H} {p : List MemPlace} (hu : P.underlying t = some (.array 2 S)) (hs : P.underlying S = some (.struct #[f0, f1])) (hone : oneCellFields P #[f0, f1] = true) (cS : P.cellsOf S = 2) (cT : P.cellsOf t = 4)
    (t0 : f0.type = E) (t1 : f1.type = E) (hE : P.underlying E = some (.int .i64)) (hv : Value.okWide P w r b0 t v) (h : DataW.Trod enc P w base spare held t v d p) :
    ∃ x0 y0 x1 y1 : Int, v = .agg #[.int .i64 x0, .int .i64 y0, .int .i64 x1, .int .i64 y1] := by
  simp only [Value.okWide, hu] at hv
  obtain ⟨cs, rfl, h2, _⟩ := hv
  obtain ⟨c0, c1, c2, c3, rfl⟩ := Joins.array4 (h2.trans cT)
  obtain ⟨fuel, hf⟩ := h
  obtain ⟨xs, m, _, _, _, hl, he⟩ := DataW.trod_array hu hf
  obtain ⟨o0, k0⟩ := hone_of hone 0 f0 rfl
  obtain ⟨o1, k1⟩ := hone_of hone 1 f1 rfl
  rw [t0] at k0
  rw [t1] at k1
  match xs, hl with
  | [y0, y1], _ =>
    have e0 := he 0 (by omega)
    have e1 := he 1 (by omega)
    simp [Value.cells, cS] at e0 e1
    obtain ⟨_, _, _, _, _, a0, a1⟩ := Go.ChangeShapes.trod_struct2 hs e0
    obtain ⟨_, _, _, _, _, b0, b1⟩ := Go.ChangeShapes.trod_struct2 hs e1
    simp [o0, k0, t0] at a0 b0
    simp [o1, k1, t1] at a1 b1
    obtain ⟨p0, q0, _, _⟩ := DataW.trod_int hE a0
    obtain ⟨p1, q1, _, _⟩ := DataW.trod_int hE a1
    obtain ⟨p2, q2, _, _⟩ := DataW.trod_int hE b0
    obtain ⟨p3, q3, _, _⟩ := DataW.trod_int hE b1
    simp only [List.cons.injEq, and_true] at q0 q1 q2 q3
    subst q0 q1 q2 q3
    exact ⟨p0, p1, p2, p3, rfl⟩
end
end Go.Firn
