/- Rows of structs of two ints that the call owns and writes field by field; a copy of a slice of such. -/
import Derived.Test.YthgbnjndljjbgaaDoorCorw
namespace Go.Firn
open Go.RowKit

/-- The block g holds n structs of two ints that may be written. -/
def RowP (w : World) (g n : Nat) (P T : Nat → Int) : Prop := ∀ i, i < n → w.cell? ⟨g, i * 2, none⟩ = some (.int .i64 (P i)) ∧ w.cell? ⟨g, i * 2 + 1, none⟩ = some (.int .i64 (T i)) ∧ w.frozen? ⟨g, i * 2, none⟩ = false ∧ w.frozen? ⟨g, i * 2 + 1, none⟩ = false
theorem RowP.gr {w w' : World} {g n : Nat} {P T : Nat → Int} (h : RowP w g n P T) (k : Gr w w') : RowP w' g n P T := fun i hi => by
  obtain ⟨h1, h2, h3, h4⟩ := h i hi
  have hb := World.block_lt_of_cell? w _ h1
  exact ⟨k.cell h1, k.cell h2, by rw [Below.frozen k hb]; exact h3, by rw [Below.frozen k (p := ⟨g, i * 2 + 1, none⟩) hb]; exact h4⟩
theorem RowP.congr {w : World} {g n : Nat} {P T P' T' : Nat → Int} (h : RowP w g n P T) (e : ∀ i, i < n → P i = P' i ∧ T i = T' i) : RowP w g n P' T' := fun i hi => by
  rw [← (e i hi).1, ← (e i hi).2]; exact h i hi
theorem RowP.put1 {w : World} {g n j : Nat} {P T : Nat → Int} (h : RowP w g n P T) (x : Int) : RowP (w.setCell ⟨g, j * 2, none⟩ (.int .i64 x)) g n (fun i => if i = j then x else P i) T := fun i hi => by
  obtain ⟨h1, h2, h3, h4⟩ := h i hi
  refine ⟨?_, ?_, by simpa using h3, by simpa using h4⟩
  · by_cases e : i = j
    · subst e
      simp only [if_pos]
      exact World.cell?_setCell_same _ _ _ h1
    · simp only [if_neg e]
      rw [World.cell?_setCell_other _ _ _ _ (fun x => e (by have := congrArg Addr.off x; simp at this; omega))]
      exact h1
  · rw [World.cell?_setCell_other _ _ _ _ (fun x => by have := congrArg Addr.off x; simp at this; omega)]
    exact h2
theorem RowP.put2 {w : World} {g n j : Nat} {P T : Nat → Int} (h : RowP w g n P T) (x : Int) : RowP (w.setCell ⟨g, j * 2 + 1, none⟩ (.int .i64 x)) g n P (fun i => if i = j then x else T i) := fun i hi => by
  obtain ⟨h1, h2, h3, h4⟩ := h i hi
  refine ⟨?_, ?_, by simpa using h3, by simpa using h4⟩
  · rw [World.cell?_setCell_other _ _ _ _ (fun x => by have := congrArg Addr.off x; simp at this; omega)]
    exact h1
  · by_cases e : i = j
    · subst e
      simp only [if_pos]
      exact World.cell?_setCell_same _ _ _ h2
    · simp only [if_neg e]
      rw [World.cell?_setCell_other _ _ _ _ (fun x => e (by have := congrArg Addr.off x; simp at this; omega))]
      exact h2
theorem RowP.rd {w : World} {g n : Nat} {P T : Nat → Int} (h : RowP w g n P T) : RdM w (some ⟨g, 0, none⟩) n P T := .inr ⟨g, 0, rfl, fun i hi => by rw [Nat.zero_add]; exact ⟨(h i hi).1, (h i hi).2.1⟩⟩

/-- A literal without elements. -/
theorem OwnM.empty (w : World) (e : TypeId) : OwnM w e (w.alloc (.cells #[] e)) (.slice (some ⟨w.heap.size, 0, none⟩) 0 0) [] :=
  ⟨⟨rfl, .inr ⟨w.heap.size, 0, #[], rfl, Nat.le_refl _, heap_alloc_new w (.cells #[] e), Nat.le_refl _, Nat.zero_le _, rfl, rfl⟩⟩, (Gr.refl w).alloc _⟩
/-- What is owned may be written. -/
theorem OwnM.rowP {w0 w : World} {e : TypeId} {v : Value} {n : Nat} {P T : Nat → Int} (hn : 1 ≤ n) (h : OwnM w0 e w v (pairs n P T)) : ∃ g c, v = .slice (some ⟨g, 0, none⟩) n c ∧ n ≤ c ∧ c ≤ maxLen ∧ w0.heap.size ≤ g ∧ RowP w g n P T := by
  have h0 := h.1
  rw [pairs_length] at h0
  obtain ⟨hl, hv⟩ := h0
  rcases hv with ⟨_, rfl⟩ | ⟨g, cap, cur, rfl, hb, hg, hnc, hcm, hcs, htake⟩
  · omega
  · refine ⟨g, cap, rfl, hnc, hcm, hb, fun i hi => ?_⟩
    have h1 := h.1
    rw [pairs_length] at h1
    obtain ⟨p0, p1⟩ := pm_at (pairs n P T) i (by rw [pairs_length]; exact hi)
    have c0 := h1.cells (g := g) rfl _ _ p0
    have c1 := h1.cells (g := g) rfl _ _ p1
    rw [add_flat rfl] at c0 c1
    have e0 := px_pairs P T hi
    have e1 := py_pairs P T hi
    unfold px at e0
    unfold py at e1
    rw [e0] at c0
    rw [e1] at c1
    simp only [Nat.zero_add] at c0 c1
    have fz : ∀ j, w.frozen? ⟨g, j, none⟩ = false := fun j => by
      unfold World.frozen?
      rw [hg]
      simp
    exact ⟨c0, c1, fz _, fz _⟩

/-- append([]T{}, s...): a copy. -/
theorem wpList_copy_pair {P : Program} {ops : Array Oper} {rest : List Oper} {o : Oper} {a : Act} {Q : Exit → Act → World → Prop} (hgd : o.guard = none) (s x : Operand) (t e : TypeId)
    (ho : o.op = .call { callee := .builtin .append, args := #[s, x], argTypes := #[t, t] })
    (ht : P.underlying t = some (.slice e)) (hinfo : (P.info? e).map (fun i => (i.zero, i.size, i.bytes)) = some (some (.agg #[.int .i64 0, .int .i64 0]), 2, 16))
    {w0 w : World} (v : Value) (hs : a.eval s = v) (hown : OwnM w0 e w v [])
    (b off n c : Nat) (F G : Nat → Int) (hx : a.eval x = .slice (some ⟨b, off, none⟩) n c) (hc : ∀ i, i < n → w.cell? ⟨b, off + i * 2, none⟩ = some (.int .i64 (F i)) ∧ w.cell? ⟨b, off + i * 2 + 1, none⟩ = some (.int .i64 (G i))) (hk : n ≤ 100000)
    (h : ∀ v' w', OwnM w0 e w' v' (pairs n F G) → wpList P ops Q rest (a.put o.dst v') w') : wpList P ops Q (o :: rest) a w := by
  refine wpList_plain hgd fun K hK => ?_
  obtain ⟨i0, hi, hz0, hz1, hz2⟩ := info_pair hinfo
  refine wp_append_own w s x t ho w0.heap.size e i0 _ 2 16 ht hi hz0 hz1 hz2 rfl (by decide) v 0 (pm []) hs hown.1 ⟨b, off, none⟩ n c (pm (pairs n F G)) hx (by rw [pm_length, pairs_length]) ?_ ?_ ?_ ?_ hown.2.size ?_
  · intro j u hu
    rw [add_flat rfl]
    have hj : j < n * 2 := by
      rcases Nat.lt_or_ge j (n * 2) with h | h
      · exact h
      · rw [List.getElem?_eq_none (by rw [pm_length, pairs_length]; exact h)] at hu; cases hu
    obtain ⟨p0, p1⟩ := pm_at (pairs n F G) (j / 2) (by rw [pairs_length]; omega)
    have e0 := px_pairs F G (show j / 2 < n by omega)
    have e1 := py_pairs F G (show j / 2 < n by omega)
    unfold px at e0
    unfold py at e1
    rw [e0] at p0
    rw [e1] at p1
    rcases Nat.mod_two_eq_zero_or_one j with h | h
    · have ej : j = j / 2 * 2 := by omega
      rw [ej, p0] at hu
      cases hu
      show w.cell? ⟨b, off + j, none⟩ = _
      rw [ej]
      have := (hc (j / 2) (by omega)).1
      rw [show j / 2 * 2 / 2 = j / 2 by omega]
      exact this
    · have ej : j = j / 2 * 2 + 1 := by omega
      rw [ej, p1] at hu
      cases hu
      show w.cell? ⟨b, off + j, none⟩ = _
      rw [ej, ← Nat.add_assoc]
      have := (hc (j / 2) (by omega)).2
      rw [show (j / 2 * 2 + 1) / 2 = j / 2 by omega]
      exact this
  · intro u hu
    unfold pm at hu
    rw [List.mem_flatMap] at hu
    obtain ⟨m, _, hm⟩ := hu
    simp at hm
    rcases hm with rfl | rfl <;> rfl
  · unfold maxLen; omega
  · omega
  · intro v' w' h1 h2 _
    have e1 : pm [] ++ pm (pairs n F G) = pm (pairs n F G) := rfl
    rw [e1, Nat.zero_add] at h1
    exact hK _ _ (h v' w' ⟨by rw [pairs_length]; exact h1, hown.2.grown h2 fun k hk => (hown.1.lt k hk).1⟩)

end Go.Firn
