/- What a walk says of a block that is written (Wr), and of a struct of three ints in a block (Box3). -/
import Derived.Test.YtbhndfnfohoidaaCorn
namespace Go.Firn
open Go.RowKit

/-- Of what was there only the block bb was written. -/
def Wr (bb : Nat) (w w' : World) : Prop := w.grownBy w' (some bb)
theorem Wr.refl (bb : Nat) (w : World) : Wr bb w w := World.grownBy.refl w _
theorem Wr.trans {bb : Nat} {a b c : World} (h : Wr bb a b) (k : Wr bb b c) : Wr bb a c := World.grownBy.trans h k
theorem Wr.drewN {bb : Nat} {a b : World} (h : Wr bb a b) (m : Nat) : Wr bb a (b.drewN m) := ⟨h.os, h.tape, h.output, h.size, h.block⟩
theorem Wr.drew {bb : Nat} {a b : World} (h : Wr bb a b) : Wr bb a b.drew := ⟨h.os, h.tape, h.output, h.size, h.block⟩
theorem Wr.set {bb : Nat} {a b : World} (h : Wr bb a b) (j : Nat) (u : Value) : Wr bb a (b.setCell ⟨bb, j, none⟩ u) :=
  h.trans ⟨rfl, rfl, rfl, by simp, fun k _ hne => Below.heap_setCell _ _ _ _ (fun e => hne (congrArg some e))⟩
theorem Wr.cell {bb : Nat} {a b : World} (h : Wr bb a b) {p : Addr} {v : Value} (hp : a.cell? p = some v) (hne : p.block ≠ bb) : b.cell? p = some v := World.grownBy.cell h hp (fun e => hne (Option.some.inj e))
theorem Wr.frozen {bb : Nat} {a b : World} (h : Wr bb a b) {p : Addr} {v : Value} (hp : a.cell? p = some v) (hne : p.block ≠ bb) : b.frozen? p = a.frozen? p :=
  World.frozen?_of_block (h.block _ (World.block_lt_of_cell? a _ hp) (fun e => hne (Option.some.inj e)))
theorem Wr.gr {bb : Nat} {w a b : World} (h : Wr bb a b) (g : Gr w a) (hb : w.heap.size ≤ bb) : Gr w b := g.grown h fun k hk => by cases hk; exact hb
theorem Box2.far1 {w : World} {b b' j : Nat} {x y : Int} (h : Box2 w b x y) (hne : b' ≠ b) (u : Value) : Box2 (w.setCell ⟨b', j, none⟩ u) b x y := by
  obtain ⟨h0, h1, h2, h3⟩ := h
  refine ⟨?_, ?_, by simpa using h2, by simpa using h3⟩
  · rw [World.cell?_setCell_other _ _ _ _ (fun e => hne (congrArg Addr.block e))]; exact h0
  · rw [World.cell?_setCell_other _ _ _ _ (fun e => hne (congrArg Addr.block e))]; exact h1

/-- A struct of three ints in a block of the call's own. -/
def Box3 (w : World) (b : Nat) (x y z : Int) : Prop := w.cell? ⟨b, 0, none⟩ = some (.int .i64 x) ∧ w.cell? ⟨b, 1, none⟩ = some (.int .i64 y) ∧ w.cell? ⟨b, 2, none⟩ = some (.int .i64 z) ∧ w.frozen? ⟨b, 0, none⟩ = false ∧ w.frozen? ⟨b, 1, none⟩ = false ∧ w.frozen? ⟨b, 2, none⟩ = false
theorem Box3.gr {w w' : World} {b : Nat} {x y z : Int} (h : Box3 w b x y z) (g : Gr w w') : Box3 w' b x y z := by
  obtain ⟨h1, h2, h3, h4, h5, h6⟩ := h
  have f := fun (p : Addr) (hp : p.block < w.heap.size) => Below.frozen g hp
  exact ⟨g.cell h1, g.cell h2, g.cell h3, (f _ (World.block_lt_of_cell? w _ h1)).trans h4, (f _ (World.block_lt_of_cell? w _ h2)).trans h5, (f _ (World.block_lt_of_cell? w _ h3)).trans h6⟩
theorem Box3.new {w : World} {b e : Nat} {x y z : Int} (hb : w.heap.size = b) : Box3 (w.alloc (.cells #[.int .i64 x, .int .i64 y, .int .i64 z] e)) b x y z := by
  subst hb
  have f := fun j v h => (Gr.refl (w.alloc (.cells #[.int .i64 x, .int .i64 y, .int .i64 z] e))).fresh' (b := w.heap.size) (j := j) (v := v) rfl h
  exact ⟨(f 0 _ rfl).1, (f 1 _ rfl).1, (f 2 _ rfl).1, (f 0 _ rfl).2, (f 1 _ rfl).2, (f 2 _ rfl).2⟩
theorem Box3.far1 {w : World} {b b' j : Nat} {x y z : Int} (h : Box3 w b x y z) (hne : b' ≠ b) (u : Value) : Box3 (w.setCell ⟨b', j, none⟩ u) b x y z := by
  have g := (Wr.refl b' w).set j u
  obtain ⟨h1, h2, h3, h4, h5, h6⟩ := h
  exact ⟨g.cell h1 (Ne.symm hne), g.cell h2 (Ne.symm hne), g.cell h3 (Ne.symm hne), (g.frozen h1 (Ne.symm hne)).trans h4, (g.frozen h2 (Ne.symm hne)).trans h5, (g.frozen h3 (Ne.symm hne)).trans h6⟩

theorem Box3.put {w : World} {b : Nat} {x y z : Int} (h : Box3 w b x y z) (x' y' z' : Int) : Box3 (((w.setCell ⟨b, 0, none⟩ (.int .i64 x')).setCell ⟨b, 1, none⟩ (.int .i64 y')).setCell ⟨b, 2, none⟩ (.int .i64 z')) b x' y' z' := by
  obtain ⟨h1, h2, h3, h4, h5, h6⟩ := h
  refine ⟨?_, ?_, ?_, by simpa using h4, by simpa using h5, by simpa using h6⟩
  · rw [World.cell?_setCell_other _ _ _ _ (by simp), World.cell?_setCell_other _ _ _ _ (by simp)]
    exact World.cell?_setCell_same' _ _ _ (by rw [h1]; rfl)
  · rw [World.cell?_setCell_other _ _ _ _ (by simp)]
    exact World.cell?_setCell_same' _ _ _ (by rw [World.cell?_setCell_other _ _ _ _ (by simp), h2]; rfl)
  · exact World.cell?_setCell_same' _ _ _ (by rw [World.cell?_setCell_other _ _ _ _ (by simp), World.cell?_setCell_other _ _ _ _ (by simp), h3]; rfl)
/-- What was there reads as before: two rules for a walk. -/
theorem bcell {W w1 : World} (hb : Gr W w1) : (∀ b o, b < W.heap.size → w1.cell? ⟨b, o, none⟩ = W.cell? ⟨b, o, none⟩) ∧ (∀ b o, b < W.heap.size → w1.frozen? ⟨b, o, none⟩ = W.frozen? ⟨b, o, none⟩) :=
  ⟨fun b o h => Below.cell hb (p := ⟨b, o, none⟩) h, fun b o h => Below.frozen hb (p := ⟨b, o, none⟩) h⟩
theorem cell_far {w : World} {b b' j k : Nat} {v : Value} (h : w.cell? ⟨b, j, none⟩ = some v) (hne : b' ≠ b) (u : Value) : (w.setCell ⟨b', k, none⟩ u).cell? ⟨b, j, none⟩ = some v := by
  rw [World.cell?_setCell_other _ _ _ _ (fun e => hne (congrArg Addr.block e))]; exact h

/-- Of what was there only blocks of X were written. -/
structure Wx (X : Nat → Prop) (w w' : World) : Prop where
  os : w'.os = w.os
  tape : w'.tape = w.tape
  output : w'.output = w.output
  size : w.heap.size ≤ w'.heap.size
  block : ∀ k, k < w.heap.size → ¬X k → w'.heap[k]? = w.heap[k]?
theorem Wx.refl (X : Nat → Prop) (w : World) : Wx X w w := ⟨rfl, rfl, rfl, Nat.le_refl _, fun _ _ _ => rfl⟩
theorem Wx.trans {X : Nat → Prop} {a b c : World} (h : Wx X a b) (k : Wx X b c) : Wx X a c :=
  ⟨k.os.trans h.os, k.tape.trans h.tape, k.output.trans h.output, Nat.le_trans h.size k.size, fun i hi hx => (k.block i (Nat.lt_of_lt_of_le hi h.size) hx).trans (h.block i hi hx)⟩
theorem Wx.of_gr {X : Nat → Prop} {a b : World} (h : Gr a b) : Wx X a b := ⟨h.os, h.tape, h.output, h.size, fun k hk _ => Below.block h k hk⟩
theorem Wx.drew {X : Nat → Prop} {a b : World} (h : Wx X a b) : Wx X a b.drew := ⟨h.os, h.tape, h.output, h.size, h.block⟩
theorem Wx.set {X : Nat → Prop} {a b : World} (h : Wx X a b) {bb : Nat} (hb : X bb) (j : Nat) (u : Value) : Wx X a (b.setCell ⟨bb, j, none⟩ u) :=
  h.trans ⟨rfl, rfl, rfl, by simp, fun k _ hne => Below.heap_setCell _ _ _ _ (fun e => by simp only at e; subst e; exact hne hb)⟩
theorem Wx.cell {X : Nat → Prop} {a b : World} (h : Wx X a b) {p : Addr} {v : Value} (hp : a.cell? p = some v) (hne : ¬X p.block) : b.cell? p = some v := by
  rw [World.cell?_of_block (w := a) (h.block p.block (World.block_lt_of_cell? a p hp) hne)]; exact hp
theorem Wx.frozen {X : Nat → Prop} {a b : World} (h : Wx X a b) {p : Addr} {v : Value} (hp : a.cell? p = some v) (hne : ¬X p.block) : b.frozen? p = a.frozen? p :=
  World.frozen?_of_block (h.block _ (World.block_lt_of_cell? a _ hp) hne)
theorem Wx.gr {X : Nat → Prop} {w a b : World} (h : Wx X a b) (g : Gr w a) (hb : ∀ k, X k → w.heap.size ≤ k) : Gr w b :=
  ⟨h.os.trans g.os, h.tape.trans g.tape, h.output.trans g.output, Nat.le_trans (Gr.size g) h.size, fun k hk => (h.block k (Nat.lt_of_lt_of_le hk (Gr.size g)) (fun e => by have := hb k e; omega)).trans (Below.block g k hk)⟩
theorem Wx.own {X : Nat → Prop} {a b c : World} {row : Option Nat} (h : Wx X a b) (g : b.grownBy c row) (hr : ∀ r, row = some r → a.heap.size ≤ r) : Wx X a c :=
  ⟨g.os.trans h.os, g.tape.trans h.tape, g.output.trans h.output, Nat.le_trans h.size g.size, fun k hk hX => (g.block k (Nat.lt_of_lt_of_le hk h.size) (fun e => by have := hr k e.symm; omega)).trans (h.block k hk hX)⟩

end Go.Firn
