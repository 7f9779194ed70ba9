/- A row of bytes of the call's own, put in order by the library's sort: worlds and exchanges. -/
import Derived.Test.YtehdemcfeoiecaaDoorSum
import Derived.Sort.LotD3
import Derived.Sort.LotA
import Derived.Sort.LotB
import Derived.Sort.LotC
namespace Go.Firn
open Go.RowKit Go.Sort

theorem cell_near {w : World} {b j : Nat} {v : Value} (h : w.cell? ⟨b, j, none⟩ = some v) (u : Value) : (w.setCell ⟨b, j, none⟩ u).cell? ⟨b, j, none⟩ = some u :=
  World.cell?_setCell_same _ _ _ h
theorem cell_by {w : World} {b j k : Nat} {v : Value} (h : w.cell? ⟨b, j, none⟩ = some v) (hk : k ≠ j) (u : Value) : (w.setCell ⟨b, k, none⟩ u).cell? ⟨b, j, none⟩ = some v := by
  rw [World.cell?_setCell_other _ _ _ _ (fun e => hk (congrArg Addr.off e))]
  exact h

/-- The value that stands at j is laid at k. -/
theorem cell_same {w : World} {b j : Nat} {v : Value} (h : w.cell? ⟨b, j, none⟩ = some v) (k : Nat) : (w.setCell ⟨b, k, none⟩ v).cell? ⟨b, j, none⟩ = some v := by
  by_cases e : k = j
  · subst e; exact cell_near h v
  · exact cell_by h e v

/-- Of what was there only the block bb was written. -/
def Wr (bb : Nat) (w w' : World) : Prop := w.grownBy w' (some bb)
theorem Wr.refl (bb : Nat) (w : World) : Wr bb w w := World.grownBy.refl w _
theorem Wr.trans {bb : Nat} {a b c : World} (h : Wr bb a b) (k : Wr bb b c) : Wr bb a c := World.grownBy.trans h k
theorem Wr.drewN {bb : Nat} {a b : World} (h : Wr bb a b) (m : Nat) : Wr bb a (b.drewN m) := ⟨h.os, h.tape, h.output, h.size, h.block⟩
theorem Wr.drew {bb : Nat} {a b : World} (h : Wr bb a b) : Wr bb a b.drew := ⟨h.os, h.tape, h.output, h.size, h.block⟩
theorem Wr.set {bb : Nat} {a b : World} (h : Wr bb a b) (j : Nat) (u : Value) : Wr bb a (b.setCell ⟨bb, j, none⟩ u) :=
  h.trans ⟨rfl, rfl, rfl, by simp, fun k _ hne => Below.heap_setCell _ _ _ _ (fun e => hne (congrArg some e))⟩
theorem Wr.of_gr {bb : Nat} {a b : World} (h : Gr a b) : Wr bb a b := ⟨h.os, h.tape, h.output, Gr.size h, fun k hk _ => Below.block h k hk⟩
theorem Wr.gr {bb : Nat} {w a b : World} (h : Wr bb a b) (g : Gr w a) (hb : w.heap.size ≤ bb) : Gr w b := g.grown h fun k hk => by cases hk; exact hb
theorem Wr.cell {bb : Nat} {a b : World} (h : Wr bb a b) {p : Addr} {v : Value} (hp : a.cell? p = some v) (hne : p.block ≠ bb) : b.cell? p = some v := World.grownBy.cell h hp (fun e => hne (Option.some.inj e))

/-- The block b holds the bytes d, which may be written. -/
def RowB (w : World) (b : Nat) (d : Array Int) : Prop := ∀ p, p < d.size → w.cell? ⟨b, p, none⟩ = some (.int .u8 d[p]!) ∧ w.frozen? ⟨b, p, none⟩ = false
theorem RowB.gr {w w' : World} {b : Nat} {d : Array Int} (h : RowB w b d) (g : Gr w w') : RowB w' b d :=
  fun p hp => ⟨g.cell (h p hp).1, (Below.frozen g (World.block_lt_of_cell? w _ (h p hp).1)).trans (h p hp).2⟩
theorem RowB.swap {w : World} {b : Nat} {d : Array Int} (h : RowB w b d) {i j : Nat} (hi : i < d.size) (hj : j < d.size) :
    RowB ((w.setCell ⟨b, i, none⟩ (.int .u8 d[j]!)).setCell ⟨b, j, none⟩ (.int .u8 d[i]!)) b (swp d i j) := by
  intro p hp
  rw [size_swp] at hp
  refine ⟨?_, by simpa using (h p hp).2⟩
  by_cases h1 : p = j
  · subst h1
    rw [swp_right d i p hp]
    by_cases h2 : i = p
    · subst h2
      exact cell_near (cell_near (h _ hp).1 _) _
    · exact cell_near (cell_by (h _ hp).1 h2 _) _
  · by_cases h2 : p = i
    · subst h2
      rw [swp_left d p j hp h1]
      exact cell_by (cell_near (h _ hp).1 _) (fun e => h1 e.symm) _
    · rw [swp_other d i j p h2 h1]
      exact cell_by (cell_by (h _ hp).1 (fun e => h2 e.symm) _) (fun e => h1 e.symm) _

/-- What a function of the sort's does: it turns the row d into d'. -/
def RetW (b : Nat) (d : Array Int) (w : World) (e : Ending) (w' : World) : Prop := e = .returned (.tuple #[]) ∧ Wr b w w' ∧ RowB w' b d

end Go.Firn
