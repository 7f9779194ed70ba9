/- What a walk says of rows of sets of the call's own, and of an order: a struct of two such rows. -/
import Derived.Test.YtjokheeegcilhaaDoorCorn
import Derived.Maps.AppendAt
namespace Go.Firn
open Go.RowKit

/-- The block b holds n sets f 0, f 1, .. that may be written. -/
def RowU (w : World) (b n : Nat) (f : Nat → Nat) : Prop := ∀ i, i < n → w.cell? ⟨b, i, none⟩ = some (.int .u16 (f i : Nat)) ∧ w.frozen? ⟨b, i, none⟩ = false
theorem RowU.gr {w w' : World} {b n : Nat} {f : Nat → Nat} (h : RowU w b n f) (g : Gr w w') : RowU w' b n f := fun i hi => by
  obtain ⟨h1, h2⟩ := h i hi
  exact ⟨g.cell h1, by rw [Below.frozen g (World.block_lt_of_cell? w _ h1)]; exact h2⟩
theorem RowU.drew {w : World} {b n : Nat} {f : Nat → Nat} (h : RowU w b n f) : RowU w.drew b n f := h
theorem RowU.congr {w : World} {b n : Nat} {f f' : Nat → Nat} (h : RowU w b n f) (e : ∀ i, i < n → f i = f' i) : RowU w b n f' := fun i hi => by rw [← e i hi]; exact h i hi
theorem RowU.far {w : World} {b b' j n : Nat} {f : Nat → Nat} (h : RowU w b n f) (hne : b' ≠ b) (u : Value) : RowU (w.setCell ⟨b', j, none⟩ u) b n f := fun i hi => by
  obtain ⟨h1, h2⟩ := h i hi
  exact ⟨by rw [World.cell?_setCell_other _ _ _ _ (fun e => hne (congrArg Addr.block e))]; exact h1, by simpa using h2⟩
theorem RowU.put {w : World} {b j n : Nat} {f : Nat → Nat} (h : RowU w b n f) (hj : j < n) (x : Nat) : RowU (w.setCell ⟨b, j, none⟩ (.int .u16 (x : Nat))) b n (fun i => if i = j then x else f i) := fun i hi => by
  obtain ⟨h1, h2⟩ := h i hi
  refine ⟨?_, by simpa using h2⟩
  by_cases e : i = j
  · subst e
    simp only [if_pos]
    exact World.cell?_setCell_same _ _ _ h1
  · simp only [if_neg e]
    rw [World.cell?_setCell_other _ _ _ _ (fun x => e (congrArg Addr.off x).symm)]
    exact h1
theorem RowU.new {w : World} {b n e : Nat} {cs : Array Value} (hb : w.heap.size = b) (hc : ∀ i, i < n → cs[i]? = some (.int .u16 0)) : RowU (w.alloc (.cells cs e)) b n (fun _ => 0) := fun i hi =>
  (Gr.refl (w.alloc (.cells cs e))).fresh' (j := i) hb (hc i hi)

theorem Box2.far1 {w : World} {b b' j : Nat} {x y : Int} (h : Box2 w b x y) (hne : b' ≠ b) (u : Value) : Box2 (w.setCell ⟨b', j, none⟩ u) b x y := by
  obtain ⟨h0, h1, h2, h3⟩ := h
  refine ⟨?_, ?_, by simpa using h2, by simpa using h3⟩
  · rw [World.cell?_setCell_other _ _ _ _ (fun e => hne (congrArg Addr.block e))]; exact h0
  · rw [World.cell?_setCell_other _ _ _ _ (fun e => hne (congrArg Addr.block e))]; exact h1

/-- An order: p leads to a struct of the rows b1, b2. -/
structure OrdB (w : World) (p b1 b2 n : Nat) (f g : Nat → Nat) : Prop where
  c0 : w.cell? ⟨p, 0, none⟩ = some (.slice (some ⟨b1, 0, none⟩) n n)
  c1 : w.cell? ⟨p, 1, none⟩ = some (.slice (some ⟨b2, 0, none⟩) n n)
  r1 : RowU w b1 n f
  r2 : RowU w b2 n g
theorem OrdB.gr {w w' : World} {p b1 b2 n : Nat} {f g : Nat → Nat} (h : OrdB w p b1 b2 n f g) (k : Gr w w') : OrdB w' p b1 b2 n f g := ⟨k.cell h.c0, k.cell h.c1, h.r1.gr k, h.r2.gr k⟩
theorem OrdB.drew {w : World} {p b1 b2 n : Nat} {f g : Nat → Nat} (h : OrdB w p b1 b2 n f g) : OrdB w.drew p b1 b2 n f g := h.gr ((Gr.refl w).drew)
theorem OrdB.congr {w : World} {p b1 b2 n : Nat} {f g f' g' : Nat → Nat} (h : OrdB w p b1 b2 n f g) (e : ∀ i, i < n → f i = f' i ∧ g i = g' i) : OrdB w p b1 b2 n f' g' :=
  ⟨h.c0, h.c1, h.r1.congr fun i hi => (e i hi).1, h.r2.congr fun i hi => (e i hi).2⟩
/-- Both rows are written at one place each. -/
theorem OrdB.put1 {w : World} {p b1 b2 n : Nat} {f g : Nat → Nat} (h : OrdB w p b1 b2 n f g) (h1 : b1 ≠ p) (h2 : b1 ≠ b2) {j : Nat} (hj : j < n) (x : Nat) :
    OrdB (w.setCell ⟨b1, j, none⟩ (.int .u16 (x : Nat))) p b1 b2 n (fun i => if i = j then x else f i) g :=
  ⟨by rw [World.cell?_setCell_other _ _ _ _ (fun e => h1 (congrArg Addr.block e))]; exact h.c0, by rw [World.cell?_setCell_other _ _ _ _ (fun e => h1 (congrArg Addr.block e))]; exact h.c1, h.r1.put hj x, h.r2.far h2 _⟩
theorem OrdB.put2 {w : World} {p b1 b2 n : Nat} {f g : Nat → Nat} (h : OrdB w p b1 b2 n f g) (h1 : b2 ≠ p) (h2 : b2 ≠ b1) {j : Nat} (hj : j < n) (x : Nat) :
    OrdB (w.setCell ⟨b2, j, none⟩ (.int .u16 (x : Nat))) p b1 b2 n f (fun i => if i = j then x else g i) :=
  ⟨by rw [World.cell?_setCell_other _ _ _ _ (fun e => h1 (congrArg Addr.block e))]; exact h.c0, by rw [World.cell?_setCell_other _ _ _ _ (fun e => h1 (congrArg Addr.block e))]; exact h.c1, h.r1.far h2 _, h.r2.put hj x⟩

theorem OrdB.start (w : World) (cs : Array Value) (n e e' b1 b2 : Nat) (hc : ∀ i, i < n → cs[i]? = some (.int .u16 0)) (h : (b1 = w.heap.size ∧ b2 = w.heap.size + 1) ∨ (b1 = w.heap.size + 1 ∧ b2 = w.heap.size)) :
    OrdB (((w.alloc (.cells cs e)).alloc (.cells cs e)).alloc (.cells #[.slice (some ⟨b1, 0, none⟩) n n, .slice (some ⟨b2, 0, none⟩) n n] e')) (w.heap.size + 1 + 1) b1 b2 n (fun _ => 0) (fun _ => 0) := by
  have g := Gr.refl (((w.alloc (.cells cs e)).alloc (.cells cs e)).alloc (.cells #[.slice (some ⟨b1, 0, none⟩) n n, .slice (some ⟨b2, 0, none⟩) n n] e'))
  have x0 : RowU (((w.alloc (.cells cs e)).alloc (.cells cs e)).alloc (.cells #[.slice (some ⟨b1, 0, none⟩) n n, .slice (some ⟨b2, 0, none⟩) n n] e')) w.heap.size n (fun _ => 0) :=
    (RowU.new (w := w) (e := e) rfl hc).gr (((Gr.refl _).alloc _).alloc _)
  have x1 : RowU (((w.alloc (.cells cs e)).alloc (.cells cs e)).alloc (.cells #[.slice (some ⟨b1, 0, none⟩) n n, .slice (some ⟨b2, 0, none⟩) n n] e')) (w.heap.size + 1) n (fun _ => 0) :=
    (RowU.new (w := w.alloc (.cells cs e)) (e := e) (by simp) hc).gr ((Gr.refl _).alloc _)
  refine ⟨(g.fresh' (j := 0) (by simp) rfl).1, (g.fresh' (j := 1) (by simp) rfl).1, ?_, ?_⟩
  · rcases h with ⟨rfl, _⟩ | ⟨rfl, _⟩ <;> assumption
  · rcases h with ⟨_, rfl⟩ | ⟨_, rfl⟩ <;> assumption

/-- Of what was there only the block bb was written. -/
def Wr (bb : Nat) (w w' : World) : Prop := w.grownBy w' (some bb)
theorem Wr.refl (bb : Nat) (w : World) : Wr bb w w := World.grownBy.refl w _
theorem Wr.trans {bb : Nat} {a b c : World} (h : Wr bb a b) (k : Wr bb b c) : Wr bb a c := World.grownBy.trans h k
theorem Wr.drewN {bb : Nat} {a b : World} (h : Wr bb a b) (m : Nat) : Wr bb a (b.drewN m) := ⟨h.os, h.tape, h.output, h.size, h.block⟩
theorem Wr.drew {bb : Nat} {a b : World} (h : Wr bb a b) : Wr bb a b.drew := ⟨h.os, h.tape, h.output, h.size, h.block⟩
theorem Wr.set {bb : Nat} {a b : World} (h : Wr bb a b) (j : Nat) (u : Value) : Wr bb a (b.setCell ⟨bb, j, none⟩ u) :=
  h.trans ⟨rfl, rfl, rfl, by simp, fun k _ hne => Below.heap_setCell _ _ _ _ (fun e => hne (congrArg some e))⟩
theorem Wr.cell {bb : Nat} {a b : World} (h : Wr bb a b) {p : Addr} {v : Value} (hp : a.cell? p = some v) (hne : p.block ≠ bb) : b.cell? p = some v := World.grownBy.cell h hp (fun e => hne (Option.some.inj e))
theorem Wr.frozen {bb : Nat} {a b : World} (h : Wr bb a b) {p : Addr} {v : Value} (hp : a.cell? p = some v) (hne : p.block ≠ bb) : b.frozen? p = a.frozen? p :=
  World.frozen?_of_block (h.block _ (World.block_lt_of_cell? a _ hp) (fun e => hne (Option.some.inj e)))
theorem Wr.gr {bb : Nat} {w a b : World} (h : Wr bb a b) (g : Gr w a) (hb : w.heap.size ≤ bb) : Gr w b := g.grown h fun k hk => by cases hk; exact hb
theorem RowU.wr {bb : Nat} {w w' : World} {b n : Nat} {f : Nat → Nat} (h : RowU w b n f) (g : Wr bb w w') (hne : b ≠ bb) : RowU w' b n f := fun i hi => by
  obtain ⟨h1, h2⟩ := h i hi
  exact ⟨g.cell h1 hne, by rw [g.frozen h1 hne]; exact h2⟩
theorem OrdB.wr {bb : Nat} {w w' : World} {p b1 b2 n : Nat} {f g : Nat → Nat} (h : OrdB w p b1 b2 n f g) (k : Wr bb w w') (h0 : p ≠ bb) (h1 : b1 ≠ bb) (h2 : b2 ≠ bb) : OrdB w' p b1 b2 n f g :=
  ⟨k.cell h.c0 h0, k.cell h.c1 h0, h.r1.wr k h1, h.r2.wr k h2⟩

/-- make of n zeros. -/
theorem made {P : Program} {t e : TypeId} {z : Value} {by8 : Nat} (ht : P.underlying t = some (.slice e)) (hi : (P.info? e).map (fun i => (i.zero, i.size, i.bytes)) = some (some z, 1, by8)) (hz : z.cells = #[z]) (h8 : by8 ≤ 8) (n : Nat) (hn : n ≤ 100000) :
    ∃ cs : Array Value, (∀ i, i < n → cs[i]? = some z) ∧ cs.size = n ∧ ∀ w : World, (Instr.makeSlice t (.int .i64 n) (.int .i64 n)).run P w = .ok (.slice (some ⟨w.heap.size, 0, none⟩) n n) (w.alloc (.cells cs e)) := by
  obtain ⟨i, hi, i1, i2, i3⟩ : ∃ i, P.info? e = some i ∧ i.zero = some z ∧ i.size = 1 ∧ i.bytes = by8 := by
    cases h : P.info? e with
    | none => rw [h] at hi; cases hi
    | some i => rw [h] at hi; simp at hi; exact ⟨i, rfl, hi.1, hi.2.1, hi.2.2⟩
  refine ⟨madeCells z.cells n, ?_, ?_, fun w => ?_⟩
  · intro j hj
    rw [hz]
    simp [madeCells, hj, Nat.mod_one]
  · rw [size_madeCells]
  · have h8n : by8 * n ≤ 8 * 100000 := Nat.mul_le_mul h8 hn
    have := run_make (P := P) w t e i z ht hi i1 .i64 .i64 n n (by omega) (by omega) (by rw [i3, ← Int.natCast_mul]; omega) (by omega)
    rw [this, i2]
    simp

end Go.Firn
