/- Opening an argument that is an array of two or three integers. -/
import Derived.Test.YtjokheeegcilhaaDoorFra
namespace Go.Firn
open Go.RowKit
section
variable {H : Type} {enc : TypeId × Value → H} {P : Program} {w : World} {base : Nat} {spare : Nat → Bool} {held : Bool} {r : Reach} {b0 : Nat}

theorem open_arr3 {q : IntKind} {t E : TypeId} {v : Value} {d : DataW H} {p : List MemPlace} (hu : P.underlying t = some (.array 3 E)) (hE : P.underlying E = some (.int q)) (cE : P.cellsOf E = 1) (cT : P.cellsOf t = 3)
    (hv : Value.okWide P w r b0 t v) (h : DataW.Trod enc P w base spare held t v d p) :
    ∃ x0 x1 x2 : Int, v = .agg #[.int q x0, .int q x1, .int q x2] ∧ (Lit.int q x0).wf = true ∧ (Lit.int q x1).wf = true ∧ (Lit.int q x2).wf = true := by
  simp only [Value.okWide, hu] at hv
  obtain ⟨cs, rfl, h2, _⟩ := hv
  obtain ⟨c0, c1, c2, rfl⟩ := Joins.array3 (h2.trans cT)
  obtain ⟨fuel, hf⟩ := h
  obtain ⟨xs, m, _, _, _, hl, he⟩ := DataW.trod_array hu hf
  match xs, hl with
  | [y0, y1, y2], _ =>
    have e0 := he 0 (by omega)
    have e1 := he 1 (by omega)
    have e2 := he 2 (by omega)
    simp [Value.cells, cE] at e0 e1 e2
    obtain ⟨p0, k0, _, w0⟩ := DataW.trod_int hE e0
    obtain ⟨p1, k1, _, w1⟩ := DataW.trod_int hE e1
    obtain ⟨p2, k2, _, w2⟩ := DataW.trod_int hE e2
    simp only [List.cons.injEq, and_true] at k0 k1 k2
    subst k0 k1 k2
    exact ⟨p0, p1, p2, rfl, w0, w1, w2⟩
theorem open_arr2 {q : IntKind} {t E : TypeId} {v : Value} {d : DataW H} {p : List MemPlace} (hu : P.underlying t = some (.array 2 E)) (hE : P.underlying E = some (.int q)) (cE : P.cellsOf E = 1) (cT : P.cellsOf t = 2)
    (hv : Value.okWide P w r b0 t v) (h : DataW.Trod enc P w base spare held t v d p) :
    ∃ x0 x1 : Int, v = .agg #[.int q x0, .int q x1] ∧ (Lit.int q x0).wf = true ∧ (Lit.int q x1).wf = true := by
  simp only [Value.okWide, hu] at hv
  obtain ⟨cs, rfl, h2, _⟩ := hv
  obtain ⟨c0, c1, rfl⟩ := Joins.array2 (h2.trans cT)
  obtain ⟨fuel, hf⟩ := h
  obtain ⟨xs, m, _, _, _, hl, he⟩ := DataW.trod_array hu hf
  match xs, hl with
  | [y0, y1], _ =>
    have e0 := he 0 (by omega)
    have e1 := he 1 (by omega)
    simp [Value.cells, cE] at e0 e1
    obtain ⟨p0, k0, _, w0⟩ := DataW.trod_int hE e0
    obtain ⟨p1, k1, _, w1⟩ := DataW.trod_int hE e1
    simp only [List.cons.injEq, and_true] at k0 k1
    subst k0 k1
    exact ⟨p0, p1, rfl, w0, w1⟩
end
theorem wf8 {x : Int} (h : (Lit.int .u8 x).wf = true) : ∃ n : Nat, x = n ∧ n ≤ 255 := by
  simp [Lit.wf, IntKind.min, IntKind.max, IntKind.signed, IntKind.bits] at h
  exact ⟨x.toNat, by omega, by omega⟩
end Go.Firn
