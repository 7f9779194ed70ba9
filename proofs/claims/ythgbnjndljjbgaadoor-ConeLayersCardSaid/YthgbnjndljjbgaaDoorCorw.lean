/- Rows of the call's own that are written at any place: by the value at each place. -/
import Derived.Test.YthgbnjndljjbgaaDoorCoru
namespace Go.Firn
open Go.RowKit

/-- The block b holds n cells V 0, V 1, .. that may be written. -/
def RowG (w : World) (b n : Nat) (V : Nat → Value) : Prop := ∀ i, i < n → w.cell? ⟨b, i, none⟩ = some (V i) ∧ w.frozen? ⟨b, i, none⟩ = false
theorem RowG.gr {w w' : World} {b n : Nat} {V : Nat → Value} (h : RowG w b n V) (g : Gr w w') : RowG w' b n V := fun i hi => by
  obtain ⟨h1, h2⟩ := h i hi
  exact ⟨g.cell h1, by rw [Below.frozen g (World.block_lt_of_cell? w _ h1)]; exact h2⟩
theorem RowG.drew {w : World} {b n : Nat} {V : Nat → Value} (h : RowG w b n V) : RowG w.drew b n V := h
theorem RowG.congr {w : World} {b n : Nat} {V V' : Nat → Value} (h : RowG w b n V) (e : ∀ i, i < n → V i = V' i) : RowG w b n V' := fun i hi => by rw [← e i hi]; exact h i hi
theorem RowG.far {w : World} {b b' j n : Nat} {V : Nat → Value} (h : RowG w b n V) (hne : b' ≠ b) (u : Value) : RowG (w.setCell ⟨b', j, none⟩ u) b n V := fun i hi => by
  obtain ⟨h1, h2⟩ := h i hi
  exact ⟨by rw [World.cell?_setCell_other _ _ _ _ (fun e => hne (congrArg Addr.block e))]; exact h1, by simpa using h2⟩
theorem RowG.put {w : World} {b j n : Nat} {V : Nat → Value} (h : RowG w b n V) (u : Value) : RowG (w.setCell ⟨b, j, none⟩ u) b n (fun i => if i = j then u else V i) := fun i hi => by
  obtain ⟨h1, h2⟩ := h i hi
  refine ⟨?_, by simpa using h2⟩
  by_cases e : i = j
  · subst e
    simp only [if_pos]
    exact World.cell?_setCell_same _ _ _ h1
  · simp only [if_neg e]
    rw [World.cell?_setCell_other _ _ _ _ (fun x => e (congrArg Addr.off x).symm)]
    exact h1
theorem RowG.new {w : World} {b n e : Nat} {cs : Array Value} {v : Value} (hb : w.heap.size = b) (hc : ∀ i, i < n → cs[i]? = some v) : RowG (w.alloc (.cells cs e)) b n (fun _ => v) := fun i hi =>
  (Gr.refl (w.alloc (.cells cs e))).fresh' (j := i) hb (hc i hi)
theorem RowG.wr {bb : Nat} {w w' : World} {b n : Nat} {V : Nat → Value} (h : RowG w b n V) (g : Wr bb w w') (hne : b ≠ bb) : RowG w' b n V := fun i hi => by
  obtain ⟨h1, h2⟩ := h i hi
  exact ⟨g.cell h1 hne, by rw [g.frozen h1 hne]; exact h2⟩
/-- A row of ints. -/
def iV (f : Nat → Nat) (i : Nat) : Value := .int .i64 (f i : Nat)
theorem RowG.rd {w : World} {b n : Nat} {f : Nat → Nat} (h : RowG w b n (iV f)) : RdI w (some ⟨b, 0, none⟩) n (fun i => (f i : Nat)) := .inr ⟨b, 0, rfl, fun i hi => by rw [Nat.zero_add]; exact (h i hi).1⟩

end Go.Firn
