/- What a walk says of slices of structs of two ints: RdM (read by two index functions), OwnM (a row of the call's own, a list of pairs); opening arguments. -/
import Derived.Test.YtdlbgelidcfmiaaGreatDoorCore
import Derived.ProofKit
import Derived.Deep.SlicePairs
import Derived.Lib.SmallJoins
namespace Go.Firn
open Go.RowKit Go.Deep

/-- The slice at a, of n structs of two ints, reads as (f 0, g 0), (f 1, g 1), .. -/
def RdM (w : World) (a : Option Addr) (n : Nat) (f g : Nat → Int) : Prop :=
  n = 0 ∨ ∃ b o, a = some ⟨b, o, none⟩ ∧ ∀ i, i < n → w.cell? ⟨b, o + i * 2, none⟩ = some (.int .i64 (f i)) ∧ w.cell? ⟨b, o + i * 2 + 1, none⟩ = some (.int .i64 (g i))

theorem RdM.gr {w w' : World} {a : Option Addr} {n : Nat} {f g : Nat → Int} (h : RdM w a n f g) (k : Gr w w') : RdM w' a n f g := by
  rcases h with h | ⟨b, o, ha, hc⟩
  · exact .inl h
  · exact .inr ⟨b, o, ha, fun i hi => ⟨k.cell (hc i hi).1, k.cell (hc i hi).2⟩⟩
theorem RdM.congr {w : World} {a : Option Addr} {n : Nat} {f g f' g' : Nat → Int} (h : RdM w a n f g) (e : ∀ i, i < n → f i = f' i ∧ g i = g' i) : RdM w a n f' g' := by
  rcases h with h | ⟨b, o, ha, hc⟩
  · exact .inl h
  · exact .inr ⟨b, o, ha, fun i hi => by rw [(hc i hi).1, (hc i hi).2, (e i hi).1, (e i hi).2]; exact ⟨rfl, rfl⟩⟩
theorem RdM.nil (w : World) (a : Option Addr) (f g : Nat → Int) : RdM w a 0 f g := .inl rfl
theorem RdM.at {w : World} {a : Option Addr} {n : Nat} {f g : Nat → Int} (h : RdM w a n f g) {k : Nat} (hk : k < n) :
    ∃ b o, a = some ⟨b, o, none⟩ ∧ ∀ i, i < n → w.cell? ⟨b, o + i * 2, none⟩ = some (.int .i64 (f i)) ∧ w.cell? ⟨b, o + i * 2 + 1, none⟩ = some (.int .i64 (g i)) := by
  rcases h with h | h
  · omega
  · exact h

section
variable {H : Type} {enc : TypeId × Value → H} {P : Program} {w : World} {base : Nat} {spare : Nat → Bool} {held : Bool}

/-- Opening an argument that is a slice of structs of two ints. -/
theorem RdM.of_trod {t e E : TypeId} {f0 f1 : Field} {fuel : Nat} {a : Option Addr} {len cap : Nat} {x : DataW H × List MemPlace} (ht : P.underlying t = some (.slice e)) (he : P.underlying e = some (.struct #[f0, f1]))
    (ce : P.cellsOf e = 2) (h0 : f0.offset = 0 ∧ f0.type = E) (h1 : f1.offset = 1 ∧ f1.type = E) (cE : P.cellsOf E = 1) (hE : P.underlying E = some (.int .i64))
    (h : DataW.trod enc P w base spare held fuel t [.slice a len cap] = some x) :
    ∃ f g : Nat → Int, len ≤ 9223372036854775807 ∧ (∀ i, i < len → (Lit.int .i64 (f i)).wf = true ∧ (Lit.int .i64 (g i)).wf = true) ∧ RdM w a len f g := by
  obtain ⟨o0, t0⟩ := h0
  obtain ⟨o1, t1⟩ := h1
  rcases open_slice_pairs ht he ce o0 o1 (by rw [t0]; exact cE) (by rw [t1]; exact cE) h with ⟨hcs, _⟩ | ⟨ad, l, c, m, n, V0, V1, D0, D1, P0, P1, hcs, _, hl, hm, hmm, _, hx⟩
  · simp only [List.cons.injEq, and_true, Value.slice.injEq] at hcs
    obtain ⟨rfl, rfl, rfl⟩ := hcs
    exact ⟨fun _ => 0, fun _ => 0, by omega, fun i hi => by omega, .inl rfl⟩
  · simp only [List.cons.injEq, and_true, Value.slice.injEq] at hcs
    obtain ⟨rfl, rfl, rfl⟩ := hcs
    have hlm : len ≤ m := by rw [hmm]; split <;> omega
    have each : ∀ i, i < m → (V0 i = .int .i64 (intOf (V0 i)) ∧ (Lit.int .i64 (intOf (V0 i))).wf = true) ∧ (V1 i = .int .i64 (intOf (V1 i)) ∧ (Lit.int .i64 (intOf (V1 i))).wf = true) := by
      intro i hi
      obtain ⟨_, _, h2, h3⟩ := hx i hi
      rw [t0] at h2
      rw [t1] at h3
      obtain ⟨p, hp, _, wp⟩ := DataW.trod_int hE h2
      obtain ⟨q, hq, _, wq⟩ := DataW.trod_int hE h3
      simp only [List.cons.injEq, and_true] at hp hq
      rw [hp, hq]
      exact ⟨⟨rfl, wp⟩, rfl, wq⟩
    refine ⟨fun i => intOf (V0 i), fun i => intOf (V1 i), ?_, fun i hi => ⟨(each i (by omega)).1.2, (each i (by omega)).2.2⟩, ?_⟩
    · unfold maxLen at hm; omega
    by_cases hz : len = 0
    · exact .inl hz
    right
    have hs : ad.spot = none := by
      have := World.cell?_spot (hx 0 (by omega)).1
      simpa [Addr.add] using this
    refine ⟨ad.block, ad.off, by rw [← hs], fun i hi => ?_⟩
    obtain ⟨g0, g1, _, _⟩ := hx i (by omega)
    rw [add_flat hs] at g0 g1
    exact ⟨by rw [g0, ← (each i (by omega)).1.1], by rw [← Nat.add_assoc] at g1; rw [g1, ← (each i (by omega)).2.1]⟩

/-- Opening an argument that is a struct of two ints. -/
theorem open_pair {r : Reach} {b0 : Nat} {t E : TypeId} {f0 f1 : Field} {v : Value} {d : DataW H} {p : List MemPlace} (hs : P.underlying t = some (.struct #[f0, f1])) (hone : oneCellFields P #[f0, f1] = true) (hC : P.cellsOf t = 2)
    (h0 : f0.type = E) (h1 : f1.type = E) (hE : P.underlying E = some (.int .i64))
    (hv : Value.okWide P w r b0 t v) (h : DataW.Trod enc P w base spare held t v d p) :
    ∃ x y : Int, v = .agg #[.int .i64 x, .int .i64 y] ∧ (Lit.int .i64 x).wf = true ∧ (Lit.int .i64 y).wf = true := by
  obtain ⟨c0, c1, y0, y1, n, rfl, _, _, g0, g1⟩ := Joins.open_agg2 hs hone hC hv h
  rw [h0] at g0
  rw [h1] at g1
  obtain ⟨p, hp, _, wp⟩ := DataW.trod_int hE g0
  obtain ⟨q, hq, _, wq⟩ := DataW.trod_int hE g1
  simp only [List.cons.injEq, and_true] at hp hq
  subst hp hq
  exact ⟨p, q, rfl, wp, wq⟩
end

/-- A block of the call's own, behind what has been done since: its cells, and that they may be written. -/
theorem Gr.fresh {w w' : World} {cs : Array Value} {e : TypeId} (h : Gr (w.alloc (.cells cs e)) w') {j : Nat} {v : Value} (hv : cs[j]? = some v) : w'.cell? ⟨w.heap.size, j, none⟩ = some v ∧ w'.frozen? ⟨w.heap.size, j, none⟩ = false := by
  have hn := heap_alloc_new w (.cells cs e)
  refine ⟨h.cell (by rw [cell_of_row _ _ j cs e (0, 0) hn]; exact hv), ?_⟩
  rw [Below.frozen h (by simp)]
  unfold World.frozen?
  rw [hn]
  simp
theorem Gr.fresh' {w w' : World} {cs : Array Value} {e : TypeId} (h : Gr (w.alloc (.cells cs e)) w') {b j : Nat} {v : Value} (hb : w.heap.size = b) (hv : cs[j]? = some v) : w'.cell? ⟨b, j, none⟩ = some v ∧ w'.frozen? ⟨b, j, none⟩ = false := by
  subst hb; exact h.fresh hv
theorem Gr.setAt {a w : World} (h : Gr a w) {b j : Nat} (hb : a.heap.size ≤ b) (u : Value) : Gr a (w.setCell ⟨b, j, none⟩ u) := h.setCell (p := ⟨b, j, none⟩) hb u
theorem Gr.freshSize {w w' : World} {o : Obj} (h : Gr (w.alloc o) w') : w.heap.size < w'.heap.size := by
  have := h.size
  simp at this
  omega

/-- A struct of two ints in a block of the call's own. -/
def Box2 (w : World) (b : Nat) (x y : Int) : Prop := w.cell? ⟨b, 0, none⟩ = some (.int .i64 x) ∧ w.cell? ⟨b, 1, none⟩ = some (.int .i64 y) ∧ w.frozen? ⟨b, 0, none⟩ = false ∧ w.frozen? ⟨b, 1, none⟩ = false
theorem Box2.put {w : World} {b : Nat} {x y x' y' : Int} (h : Box2 w b x y) : Box2 ((w.setCell ⟨b, 0, none⟩ (.int .i64 x')).setCell ⟨b, 1, none⟩ (.int .i64 y')) b x' y' := by
  obtain ⟨h0, h1, h2, h3⟩ := h
  have e1 : (w.setCell ⟨b, 0, none⟩ (.int .i64 x')).cell? ⟨b, 1, none⟩ = some (.int .i64 y) := by rw [World.cell?_setCell_other _ _ _ _ (by simp)]; exact h1
  refine ⟨?_, World.cell?_setCell_same _ _ _ e1, by simpa using h2, by simpa using h3⟩
  rw [World.cell?_setCell_other _ _ _ _ (by simp)]
  exact World.cell?_setCell_same _ _ _ h0
theorem Box2.far {w : World} {b b' : Nat} {x y : Int} (h : Box2 w b x y) (hne : b' ≠ b) (u v : Value) : Box2 ((w.setCell ⟨b', 0, none⟩ u).setCell ⟨b', 1, none⟩ v) b x y := by
  obtain ⟨h0, h1, h2, h3⟩ := h
  refine ⟨?_, ?_, by simpa using h2, by simpa using h3⟩
  · rw [World.cell?_setCell_other _ _ _ _ (fun e => hne (congrArg Addr.block e)), World.cell?_setCell_other _ _ _ _ (fun e => hne (congrArg Addr.block e))]; exact h0
  · rw [World.cell?_setCell_other _ _ _ _ (fun e => hne (congrArg Addr.block e)), World.cell?_setCell_other _ _ _ _ (fun e => hne (congrArg Addr.block e))]; exact h1
theorem Box2.drew {w : World} {b : Nat} {x y : Int} (h : Box2 w b x y) : Box2 w.drew b x y := h
theorem Box2.gr {w w' : World} {b : Nat} {x y : Int} (h : Box2 w b x y) (g : Gr w w') : Box2 w' b x y := by
  have hb := World.block_lt_of_cell? w _ h.1
  exact ⟨g.cell h.1, g.cell h.2.1, by rw [Below.frozen g hb]; exact h.2.2.1, by rw [Below.frozen g (p := ⟨b, 1, none⟩) hb]; exact h.2.2.2⟩
theorem Box2.new {w : World} {b e : Nat} {x y : Int} (hb : w.heap.size = b) : Box2 (w.alloc (.cells #[.int .i64 x, .int .i64 y] e)) b x y := by
  have g := Gr.refl (w.alloc (.cells #[.int .i64 x, .int .i64 y] e))
  obtain ⟨a1, a2⟩ := g.fresh' (j := 0) hb rfl
  obtain ⟨a3, a4⟩ := g.fresh' (j := 1) hb rfl
  exact ⟨a1, a3, a2, a4⟩

theorem wf64 {x : Int} (h : (Lit.int .i64 x).wf = true) : -9223372036854775808 ≤ x ∧ x ≤ 9223372036854775807 := by
  simp [Lit.wf, IntKind.min, IntKind.max, IntKind.signed, IntKind.bits] at h
  omega

end Go.Firn
