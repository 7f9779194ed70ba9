/- Rows of the call's own that are written at any place: by the value at each place. Rows of structs of two ints that the call owns and writes field by field; a copy of a slice of such. Slices of slices of ints: RdT (read), OwnT (a table of the call's own). What a walk says of a world in which a few blocks were written. -/
import Derived.Test.YtjokheeegcilhaaDoorCoru
namespace Go.Firn
open Go.RowKit

/-- The block b holds n cells V 0, V 1, .. that may be written. -/
def RowG (w : World) (b n : Nat) (V : Nat → Value) : Prop := ∀ i, i < n → w.cell? ⟨b, i, none⟩ = some (V i) ∧ w.frozen? ⟨b, i, none⟩ = false
theorem RowG.gr {w w' : World} {b n : Nat} {V : Nat → Value} (h : RowG w b n V) (g : Gr w w') : RowG w' b n V := fun i hi => by
  obtain ⟨h1, h2⟩ := h i hi
  exact ⟨g.cell h1, by rw [Below.frozen g (World.block_lt_of_cell? w _ h1)]; exact h2⟩
theorem RowG.drew {w : World} {b n : Nat} {V : Nat → Value} (h : RowG w b n V) : RowG w.drew b n V := h
theorem RowG.congr {w : World} {b n : Nat} {V V' : Nat → Value} (h : RowG w b n V) (e : ∀ i, i < n → V i = V' i) : RowG w b n V' := fun i hi => by rw [← e i hi]; exact h i hi
theorem RowG.far {w : World} {b b' j n : Nat} {V : Nat → Value} (h : RowG w b n V) (hne : b' ≠ b) (u : Value) : RowG (w.setCell ⟨b', j, none⟩ u) b n V := fun i hi => by
  obtain ⟨h1, h2⟩ := h i hi
  exact ⟨by rw [World.cell?_setCell_other _ _ _ _ (fun e => hne (congrArg Addr.block e))]; exact h1, by simpa using h2⟩
theorem RowG.put {w : World} {b j n : Nat} {V : Nat → Value} (h : RowG w b n V) (u : Value) : RowG (w.setCell ⟨b, j, none⟩ u) b n (fun i => if i = j then u else V i) := fun i hi => by
  obtain ⟨h1, h2⟩ := h i hi
  refine ⟨?_, by simpa using h2⟩
  by_cases e : i = j
  · subst e
    simp only [if_pos]
    exact World.cell?_setCell_same _ _ _ h1
  · simp only [if_neg e]
    rw [World.cell?_setCell_other _ _ _ _ (fun x => e (congrArg Addr.off x).symm)]
    exact h1
theorem RowG.new {w : World} {b n e : Nat} {cs : Array Value} {v : Value} (hb : w.heap.size = b) (hc : ∀ i, i < n → cs[i]? = some v) : RowG (w.alloc (.cells cs e)) b n (fun _ => v) := fun i hi =>
  (Gr.refl (w.alloc (.cells cs e))).fresh' (j := i) hb (hc i hi)
theorem RowG.wr {bb : Nat} {w w' : World} {b n : Nat} {V : Nat → Value} (h : RowG w b n V) (g : Wr bb w w') (hne : b ≠ bb) : RowG w' b n V := fun i hi => by
  obtain ⟨h1, h2⟩ := h i hi
  exact ⟨g.cell h1 hne, by rw [g.frozen h1 hne]; exact h2⟩
/-- A row of ints. -/
def iV (f : Nat → Nat) (i : Nat) : Value := .int .i64 (f i : Nat)
theorem RowG.rd {w : World} {b n : Nat} {f : Nat → Nat} (h : RowG w b n (iV f)) : RdI w (some ⟨b, 0, none⟩) n (fun i => (f i : Nat)) := .inr ⟨b, 0, rfl, fun i hi => by rw [Nat.zero_add]; exact (h i hi).1⟩

end Go.Firn

namespace Go.Firn
open Go.RowKit

/-- The block g holds n structs of two ints that may be written. -/
def RowP (w : World) (g n : Nat) (P T : Nat → Int) : Prop := ∀ i, i < n → w.cell? ⟨g, i * 2, none⟩ = some (.int .i64 (P i)) ∧ w.cell? ⟨g, i * 2 + 1, none⟩ = some (.int .i64 (T i)) ∧ w.frozen? ⟨g, i * 2, none⟩ = false ∧ w.frozen? ⟨g, i * 2 + 1, none⟩ = false
theorem RowP.gr {w w' : World} {g n : Nat} {P T : Nat → Int} (h : RowP w g n P T) (k : Gr w w') : RowP w' g n P T := fun i hi => by
  obtain ⟨h1, h2, h3, h4⟩ := h i hi
  have hb := World.block_lt_of_cell? w _ h1
  exact ⟨k.cell h1, k.cell h2, by rw [Below.frozen k hb]; exact h3, by rw [Below.frozen k (p := ⟨g, i * 2 + 1, none⟩) hb]; exact h4⟩
theorem RowP.congr {w : World} {g n : Nat} {P T P' T' : Nat → Int} (h : RowP w g n P T) (e : ∀ i, i < n → P i = P' i ∧ T i = T' i) : RowP w g n P' T' := fun i hi => by
  rw [← (e i hi).1, ← (e i hi).2]; exact h i hi
theorem RowP.put1 {w : World} {g n j : Nat} {P T : Nat → Int} (h : RowP w g n P T) (x : Int) : RowP (w.setCell ⟨g, j * 2, none⟩ (.int .i64 x)) g n (fun i => if i = j then x else P i) T := fun i hi => by
  obtain ⟨h1, h2, h3, h4⟩ := h i hi
  refine ⟨?_, ?_, by simpa using h3, by simpa using h4⟩
  · by_cases e : i = j
    · subst e
      simp only [if_pos]
      exact World.cell?_setCell_same _ _ _ h1
    · simp only [if_neg e]
      rw [World.cell?_setCell_other _ _ _ _ (fun x => e (by have := congrArg Addr.off x; simp at this; omega))]
      exact h1
  · rw [World.cell?_setCell_other _ _ _ _ (fun x => by have := congrArg Addr.off x; simp at this; omega)]
    exact h2
theorem RowP.put2 {w : World} {g n j : Nat} {P T : Nat → Int} (h : RowP w g n P T) (x : Int) : RowP (w.setCell ⟨g, j * 2 + 1, none⟩ (.int .i64 x)) g n P (fun i => if i = j then x else T i) := fun i hi => by
  obtain ⟨h1, h2, h3, h4⟩ := h i hi
  refine ⟨?_, ?_, by simpa using h3, by simpa using h4⟩
  · rw [World.cell?_setCell_other _ _ _ _ (fun x => by have := congrArg Addr.off x; simp at this; omega)]
    exact h1
  · by_cases e : i = j
    · subst e
      simp only [if_pos]
      exact World.cell?_setCell_same _ _ _ h2
    · simp only [if_neg e]
      rw [World.cell?_setCell_other _ _ _ _ (fun x => e (by have := congrArg Addr.off x; simp at this; omega))]
      exact h2
theorem RowP.rd {w : World} {g n : Nat} {P T : Nat → Int} (h : RowP w g n P T) : RdM w (some ⟨g, 0, none⟩) n P T := .inr ⟨g, 0, rfl, fun i hi => by rw [Nat.zero_add]; exact ⟨(h i hi).1, (h i hi).2.1⟩⟩

/-- A literal without elements. -/
theorem OwnM.empty (w : World) (e : TypeId) : OwnM w e (w.alloc (.cells #[] e)) (.slice (some ⟨w.heap.size, 0, none⟩) 0 0) [] :=
  ⟨⟨rfl, .inr ⟨w.heap.size, 0, #[], rfl, Nat.le_refl _, heap_alloc_new w (.cells #[] e), Nat.le_refl _, Nat.zero_le _, rfl, rfl⟩⟩, (Gr.refl w).alloc _⟩
/-- What is owned may be written. -/
theorem OwnM.rowP {w0 w : World} {e : TypeId} {v : Value} {n : Nat} {P T : Nat → Int} (hn : 1 ≤ n) (h : OwnM w0 e w v (pairs n P T)) : ∃ g c, v = .slice (some ⟨g, 0, none⟩) n c ∧ n ≤ c ∧ c ≤ maxLen ∧ w0.heap.size ≤ g ∧ RowP w g n P T := by
  have h0 := h.1
  rw [pairs_length] at h0
  obtain ⟨hl, hv⟩ := h0
  rcases hv with ⟨_, rfl⟩ | ⟨g, cap, cur, rfl, hb, hg, hnc, hcm, hcs, htake⟩
  · omega
  · refine ⟨g, cap, rfl, hnc, hcm, hb, fun i hi => ?_⟩
    have h1 := h.1
    rw [pairs_length] at h1
    obtain ⟨p0, p1⟩ := pm_at (pairs n P T) i (by rw [pairs_length]; exact hi)
    have c0 := h1.cells (g := g) rfl _ _ p0
    have c1 := h1.cells (g := g) rfl _ _ p1
    rw [add_flat rfl] at c0 c1
    have e0 := px_pairs P T hi
    have e1 := py_pairs P T hi
    unfold px at e0
    unfold py at e1
    rw [e0] at c0
    rw [e1] at c1
    simp only [Nat.zero_add] at c0 c1
    have fz : ∀ j, w.frozen? ⟨g, j, none⟩ = false := fun j => by
      unfold World.frozen?
      rw [hg]
      simp
    exact ⟨c0, c1, fz _, fz _⟩

/-- append([]T{}, s...): a copy. -/
theorem wpList_copy_pair {P : Program} {ops : Array Oper} {rest : List Oper} {o : Oper} {a : Act} {Q : Exit → Act → World → Prop} (hgd : o.guard = none) (s x : Operand) (t e : TypeId)
    (ho : o.op = .call { callee := .builtin .append, args := #[s, x], argTypes := #[t, t] })
    (ht : P.underlying t = some (.slice e)) (hinfo : (P.info? e).map (fun i => (i.zero, i.size, i.bytes)) = some (some (.agg #[.int .i64 0, .int .i64 0]), 2, 16))
    {w0 w : World} (v : Value) (hs : a.eval s = v) (hown : OwnM w0 e w v [])
    (b off n c : Nat) (F G : Nat → Int) (hx : a.eval x = .slice (some ⟨b, off, none⟩) n c) (hc : ∀ i, i < n → w.cell? ⟨b, off + i * 2, none⟩ = some (.int .i64 (F i)) ∧ w.cell? ⟨b, off + i * 2 + 1, none⟩ = some (.int .i64 (G i))) (hk : n ≤ 100000)
    (h : ∀ v' w', OwnM w0 e w' v' (pairs n F G) → wpList P ops Q rest (a.put o.dst v') w') : wpList P ops Q (o :: rest) a w := by
  refine wpList_plain hgd fun K hK => ?_
  obtain ⟨i0, hi, hz0, hz1, hz2⟩ := info_pair hinfo
  refine wp_append_own w s x t ho w0.heap.size e i0 _ 2 16 ht hi hz0 hz1 hz2 rfl (by decide) v 0 (pm []) hs hown.1 ⟨b, off, none⟩ n c (pm (pairs n F G)) hx (by rw [pm_length, pairs_length]) ?_ ?_ ?_ ?_ hown.2.size ?_
  · intro j u hu
    rw [add_flat rfl]
    have hj : j < n * 2 := by
      rcases Nat.lt_or_ge j (n * 2) with h | h
      · exact h
      · rw [List.getElem?_eq_none (by rw [pm_length, pairs_length]; exact h)] at hu; cases hu
    obtain ⟨p0, p1⟩ := pm_at (pairs n F G) (j / 2) (by rw [pairs_length]; omega)
    have e0 := px_pairs F G (show j / 2 < n by omega)
    have e1 := py_pairs F G (show j / 2 < n by omega)
    unfold px at e0
    unfold py at e1
    rw [e0] at p0
    rw [e1] at p1
    rcases Nat.mod_two_eq_zero_or_one j with h | h
    · have ej : j = j / 2 * 2 := by omega
      rw [ej, p0] at hu
      cases hu
      show w.cell? ⟨b, off + j, none⟩ = _
      rw [ej]
      have := (hc (j / 2) (by omega)).1
      rw [show j / 2 * 2 / 2 = j / 2 by omega]
      exact this
    · have ej : j = j / 2 * 2 + 1 := by omega
      rw [ej, p1] at hu
      cases hu
      show w.cell? ⟨b, off + j, none⟩ = _
      rw [ej, ← Nat.add_assoc]
      have := (hc (j / 2) (by omega)).2
      rw [show (j / 2 * 2 + 1) / 2 = j / 2 by omega]
      exact this
  · intro u hu
    unfold pm at hu
    rw [List.mem_flatMap] at hu
    obtain ⟨m, _, hm⟩ := hu
    simp at hm
    rcases hm with rfl | rfl <;> rfl
  · unfold maxLen; omega
  · omega
  · intro v' w' h1 h2 _
    have e1 : pm [] ++ pm (pairs n F G) = pm (pairs n F G) := rfl
    rw [e1, Nat.zero_add] at h1
    exact hK _ _ (h v' w' ⟨by rw [pairs_length]; exact h1, hown.2.grown h2 fun k hk => (hown.1.lt k hk).1⟩)

end Go.Firn

namespace Go.Firn
open Go.RowKit

/-- The slice at a, of n slices of ints, reads as r 0, r 1, ..: how many ints, and which. -/
def RdT (w : World) (a : Option Addr) (n : Nat) (r : Nat → Nat × (Nat → Int)) : Prop :=
  n = 0 ∨ ∃ b o, a = some ⟨b, o, none⟩ ∧ ∀ i, i < n → ∃ ai ci, w.cell? ⟨b, o + i, none⟩ = some (.slice ai (r i).1 ci) ∧ (r i).1 ≤ ci ∧ ci ≤ maxLen ∧ RdI w ai (r i).1 (r i).2
theorem RdT.gr {w w' : World} {a : Option Addr} {n : Nat} {r : Nat → Nat × (Nat → Int)} (h : RdT w a n r) (g : Gr w w') : RdT w' a n r := by
  rcases h with h | ⟨b, o, ha, hc⟩
  · exact .inl h
  · refine .inr ⟨b, o, ha, fun i hi => ?_⟩
    obtain ⟨ai, ci, h1, h2, h3, h4⟩ := hc i hi
    exact ⟨ai, ci, g.cell h1, h2, h3, h4.gr g⟩
theorem RdT.at {w : World} {a : Option Addr} {n : Nat} {r : Nat → Nat × (Nat → Int)} (h : RdT w a n r) {k : Nat} (hk : k < n) :
    ∃ b o ai ci, a = some ⟨b, o, none⟩ ∧ w.cell? ⟨b, o + k, none⟩ = some (.slice ai (r k).1 ci) ∧ (r k).1 ≤ ci ∧ ci ≤ maxLen ∧ RdI w ai (r k).1 (r k).2 := by
  rcases h with h | ⟨b, o, ha, hc⟩
  · omega
  · obtain ⟨ai, ci, h1, h2, h3, h4⟩ := hc k hk
    exact ⟨b, o, ai, ci, ha, h1, h2, h3, h4⟩

/-- A list of lists, read by index. -/
def tr (f : List Nat → Nat → Int) (tb : List (List Nat)) (i : Nat) : Nat × (Nat → Int) := ((tb.getD i []).length, f (tb.getD i []))

/-- What lies in a row of the call's own: a slice that holds l, in another block than v's. -/
def Holds (base : Nat) (w : World) (v : Value) (f : List Nat → Nat → Int) (x : Value) (l : List Nat) : Prop :=
  ∃ a c, x = .slice a l.length c ∧ l.length ≤ c ∧ c ≤ maxLen ∧ RdI w a l.length (f l) ∧ (l.length = 0 ∨ ∃ b o, a = some ⟨b, o, none⟩ ∧ b < w.heap.size ∧ some b ≠ v.ownBlock ∧ base ≤ b)
/-- A table of the call's own. -/
def OwnT (w0 : World) (base : Nat) (f : List Nat → Nat → Int) (w : World) (v : Value) (tb : List (List Nat)) : Prop :=
  (Gr w0 w ∧ w0.heap.size ≤ base ∧ base ≤ w.heap.size) ∧ ∃ xs : List Value, w.ownsRow base 23 1 v tb.length xs ∧ ∀ i, i < tb.length → ∃ x, xs[i]? = some x ∧ Holds base w v f x (tb.getD i [])

theorem Holds.gr {base : Nat} {w w' : World} {v x : Value} {f : List Nat → Nat → Int} {l : List Nat} (h : Holds base w v f x l) (g : Gr w w') : Holds base w' v f x l := by
  obtain ⟨a, c, h1, h2, h3, h4, h5⟩ := h
  refine ⟨a, c, h1, h2, h3, h4.gr g, ?_⟩
  rcases h5 with h5 | ⟨b, o, k1, k2, k3⟩
  · exact .inl h5
  · exact .inr ⟨b, o, k1, Nat.lt_of_lt_of_le k2 g.size, k3⟩
theorem OwnT.nil' {w0 w : World} {base : Nat} (g : Gr w0 w) (h1 : w0.heap.size ≤ base) (h2 : base ≤ w.heap.size) (f : List Nat → Nat → Int) : OwnT w0 base f w (.slice none 0 0) [] := ⟨⟨g, h1, h2⟩, [], World.ownsRow_nil w _ _ _, fun i hi => by simp at hi⟩
theorem OwnT.gr {w0 w w' : World} {base : Nat} {f : List Nat → Nat → Int} {v : Value} {tb : List (List Nat)} (h : OwnT w0 base f w v tb) (g : Gr w w') : OwnT w0 base f w' v tb := by
  obtain ⟨h0, xs, h1, h2⟩ := h
  refine ⟨⟨h0.1.trans g, h0.2.1, Nat.le_trans h0.2.2 g.size⟩, xs, h1.kept (row := none) ⟨g.os, g.tape, g.output, Gr.size g, fun k hk _ => Below.block g k hk⟩ (by cases v.ownBlock <;> simp), fun i hi => ?_⟩
  obtain ⟨x, hx, hh⟩ := h2 i hi
  exact ⟨x, hx, hh.gr g⟩
theorem OwnT.lt {w0 w : World} {base : Nat} {f : List Nat → Nat → Int} {v : Value} {tb : List (List Nat)} (h : OwnT w0 base f w v tb) {b : Nat} (hb : v.ownBlock = some b) : b < w.heap.size := by
  obtain ⟨_, xs, h1, _⟩ := h
  exact (h1.lt b hb).2
theorem OwnT.rd {w0 w : World} {base : Nat} {f : List Nat → Nat → Int} {v : Value} {tb : List (List Nat)} (h : OwnT w0 base f w v tb) : ∃ a c, v = .slice a tb.length c ∧ tb.length ≤ c ∧ c ≤ maxLen ∧ RdT w a tb.length (tr f tb) := by
  obtain ⟨h0, xs, h1, h2⟩ := h
  have h1' := h1
  obtain ⟨hl, hv⟩ := h1'
  rcases hv with ⟨rfl, hz⟩ | ⟨g, cap, cur, rfl, hb, hg, hnc, hcm, hcs, htake⟩
  · rw [hz]; exact ⟨none, 0, rfl, Nat.le_refl _, by unfold maxLen; omega, .inl rfl⟩
  · refine ⟨_, _, rfl, hnc, hcm, .inr ⟨g, 0, rfl, fun i hi => ?_⟩⟩
    obtain ⟨x, hx, ai, ci, rfl, k1, k2, k3, _⟩ := h2 i hi
    have c0 := h1.cells (g := g) rfl _ _ hx
    rw [add_flat rfl] at c0
    exact ⟨ai, ci, c0, k1, k2, k3⟩

theorem info_slice {P : Program} {e : TypeId} (h : (P.info? e).map (fun i => (i.zero, i.size, i.bytes)) = some (some (.slice none 0 0), 1, 24)) :
    ∃ i, P.info? e = some i ∧ i.zero = some (.slice none 0 0) ∧ i.size = 1 ∧ i.bytes = 24 := by
  cases hi : P.info? e with
  | none => rw [hi] at h; cases h
  | some i => rw [hi] at h; simp at h; exact ⟨i, rfl, h.1, h.2.1, h.2.2⟩

/-- append(v, l): the table with one list more. The list lies in a block that came behind the table. -/
theorem wpList_app_list {P : Program} {ops : Array Oper} {rest : List Oper} {o : Oper} {a : Act} {Q : Exit → Act → World → Prop} (hgd : o.guard = none) (s x : Operand) (t : TypeId)
    (ho : o.op = .call { callee := .builtin .append, args := #[s, x], argTypes := #[t, t] })
    (ht : P.underlying t = some (.slice 23)) (hinfo : (P.info? 23).map (fun i => (i.zero, i.size, i.bytes)) = some (some (.slice none 0 0), 1, 24))
    {w0 w : World} {base : Nat} (f : List Nat → Nat → Int) (v : Value) (tb : List (List Nat)) (hs : a.eval s = v) (hown : OwnT w0 base f w v tb)
    (g : Nat) (y : Value) (l : List Nat) (hx : a.eval x = .slice (some ⟨g, 0, none⟩) 1 1) (hg : w.cell? ⟨g, 0, none⟩ = some y) (hy : Holds base w v f y l) (hk : tb.length < 1000000)
    (h : ∀ v' w', OwnT w0 base f w' v' (tb ++ [l]) → w.grownBy w' v.ownBlock → wpList P ops Q rest (a.put o.dst v') w') : wpList P ops Q (o :: rest) a w := by
  obtain ⟨h0, xs, h1, h2⟩ := hown
  obtain ⟨i0, hi, hz0, hz1, hz2⟩ := info_slice hinfo
  have hone : y.oneCell' = true := by obtain ⟨a', c', rfl, _⟩ := hy; rfl
  refine wpList_append_own_at w hgd s x t ho base 23 i0 (.slice none 0 0) 1 24 ht hi hz0 hz1 hz2 rfl (by decide) v tb.length xs hs h1 ⟨g, 0, none⟩ 1 1 [y] hx rfl ?_ ?_ ?_ ?_ h0.2.2 ?_
  · intro j u hu
    cases j with
    | zero => simp at hu; subst hu; exact hg
    | succ j => simp at hu
  · intro u hu; simp at hu; subst hu; exact hone
  · unfold maxLen; omega
  · omega
  · intro v' w' k1 k2 _ k4
    refine h v' w' ⟨⟨h0.1.grown k2 fun k hk => Nat.le_trans h0.2.1 (h1.lt k hk).1, h0.2.1, Nat.le_trans h0.2.2 k2.size⟩, xs ++ [y], by rw [List.length_append]; exact k1, fun i hi => ?_⟩ k2
    have hxl : xs.length = tb.length := by have := h1.1; omega
    have keep : ∀ z l', Holds base w v f z l' → Holds base w' v' f z l' := by
      rintro z l' ⟨a', c', e1, e2, e3, e4, e5⟩
      refine ⟨a', c', e1, e2, e3, ?_, ?_⟩
      · rcases e5 with e5 | ⟨b, o, rfl, e6, e7, e10⟩
        · exact .inl e5
        · rcases e4 with e4 | ⟨b', o', e8, e9⟩
          · exact .inl e4
          · cases e8
            exact .inr ⟨b, o, rfl, fun j hj => k2.cell (e9 j hj) e7⟩
      · rcases e5 with e5 | ⟨b, o, rfl, e6, e7, e10⟩
        · exact .inl e5
        · refine .inr ⟨b, o, rfl, Nat.lt_of_lt_of_le e6 k2.size, ?_, e10⟩
          rcases k4 with k4 | k4
          · rw [k4]; exact e7
          · rw [k4]; intro e; cases e; omega
    rw [List.length_append] at hi
    by_cases e : i < tb.length
    · obtain ⟨z, hz, hh⟩ := h2 i e
      refine ⟨z, by rw [List.getElem?_append_left (by omega)]; exact hz, ?_⟩
      have : (tb ++ [l]).getD i [] = tb.getD i [] := by rw [List.getD, List.getD, List.getElem?_append_left e]
      rw [this]
      exact keep _ _ hh
    · have ei : i = tb.length := by simp at hi; omega
      subst ei
      refine ⟨y, by rw [List.getElem?_append_right (by omega), hxl]; simp, ?_⟩
      have : (tb ++ [l]).getD tb.length [] = l := by rw [List.getD, List.getElem?_append_right (by omega)]; simp
      rw [this]
      exact keep _ _ hy

theorem OwnT.ne {w0 w : World} {base : Nat} {f : List Nat → Nat → Int} {v : Value} {tb : List (List Nat)} (h : OwnT w0 base f w v tb) {b : Nat} (hb : b < base) : some b ≠ v.ownBlock := fun e => by
  obtain ⟨_, xs, h1, _⟩ := h
  have := (h1.lt b e.symm).1
  omega
theorem RowG.grown {w w' : World} {row : Option Nat} {b n : Nat} {V : Nat → Value} (h : RowG w b n V) (g : w.grownBy w' row) (hne : some b ≠ row) : RowG w' b n V := fun i hi => by
  obtain ⟨h1, h2⟩ := h i hi
  exact ⟨g.cell h1 hne, by rw [World.frozen?_of_block (g.block _ (World.block_lt_of_cell? w _ h1) hne)]; exact h2⟩

/-- A cell is written in a block between the start and the table's. -/
theorem OwnT.set {w0 w : World} {base : Nat} {f : List Nat → Nat → Int} {v : Value} {tb : List (List Nat)} (h : OwnT w0 base f w v tb) {b j : Nat} (h1 : w0.heap.size ≤ b) (h2 : b < base) (u : Value) : OwnT w0 base f (w.setCell ⟨b, j, none⟩ u) v tb := by
  obtain ⟨h0, xs, k1, k2⟩ := h
  refine ⟨⟨h0.1.setAt h1 u, h0.2.1, by simpa using h0.2.2⟩, xs, ownsRow_setCell_other k1 (fun e => by have := (k1.lt b e).1; omega) u, fun i hi => ?_⟩
  obtain ⟨x, hx, a, c, rfl, e2, e3, e4, e5⟩ := k2 i hi
  refine ⟨_, hx, a, c, rfl, e2, e3, ?_, ?_⟩
  · rcases e5 with e5 | ⟨b', o, rfl, e6, e7, e8⟩
    · exact .inl e5
    · rcases e4 with e4 | ⟨b2, o2, e9, e10⟩
      · exact .inl e4
      · cases e9
        refine .inr ⟨b', o, rfl, fun j hj => ?_⟩
        rw [World.cell?_setCell_other _ _ _ _ (fun e => by have := congrArg Addr.block e; simp at this; omega)]
        exact e10 j hj
  · rcases e5 with e5 | ⟨b', o, rfl, e6, e7, e8⟩
    · exact .inl e5
    · exact .inr ⟨b', o, rfl, by simpa using e6, e7, e8⟩

/-- A row of the call's own: where it lies. -/
theorem OwnI.rdF {w0 w : World} {e : TypeId} {v : Value} {k : Nat} {f : Nat → Int} (h : OwnI w0 e w v k f) : ∃ a c, v = .slice a k c ∧ k ≤ c ∧ c ≤ maxLen ∧ RdI w a k f ∧ (k = 0 ∨ ∃ b o, a = some ⟨b, o, none⟩ ∧ b < w.heap.size ∧ w0.heap.size ≤ b) := by
  obtain ⟨a, c, rfl, h1, h2, h3⟩ := h.rd
  refine ⟨a, c, rfl, h1, h2, h3, ?_⟩
  rcases h3 with h3 | ⟨b, o, rfl, hc⟩
  · exact .inl h3
  · refine .inr ⟨b, o, rfl, ?_, ?_⟩
    · exact (h.1.lt b rfl).2
    · exact (h.1.lt b rfl).1

end Go.Firn

namespace Go.Firn
open Go.RowKit

/-- Of what was there only blocks of X were written. -/
structure Wx (X : Nat → Prop) (w w' : World) : Prop where
  os : w'.os = w.os
  tape : w'.tape = w.tape
  output : w'.output = w.output
  size : w.heap.size ≤ w'.heap.size
  block : ∀ k, k < w.heap.size → ¬X k → w'.heap[k]? = w.heap[k]?
theorem Wx.refl (X : Nat → Prop) (w : World) : Wx X w w := ⟨rfl, rfl, rfl, Nat.le_refl _, fun _ _ _ => rfl⟩
theorem Wx.trans {X : Nat → Prop} {a b c : World} (h : Wx X a b) (k : Wx X b c) : Wx X a c :=
  ⟨k.os.trans h.os, k.tape.trans h.tape, k.output.trans h.output, Nat.le_trans h.size k.size, fun i hi hx => (k.block i (Nat.lt_of_lt_of_le hi h.size) hx).trans (h.block i hi hx)⟩
theorem Wx.of_gr {X : Nat → Prop} {a b : World} (h : Gr a b) : Wx X a b := ⟨h.os, h.tape, h.output, h.size, fun k hk _ => Below.block h k hk⟩
theorem Wx.drew {X : Nat → Prop} {a b : World} (h : Wx X a b) : Wx X a b.drew := ⟨h.os, h.tape, h.output, h.size, h.block⟩
theorem Wx.set {X : Nat → Prop} {a b : World} (h : Wx X a b) {bb : Nat} (hb : X bb) (j : Nat) (u : Value) : Wx X a (b.setCell ⟨bb, j, none⟩ u) :=
  h.trans ⟨rfl, rfl, rfl, by simp, fun k _ hne => Below.heap_setCell _ _ _ _ (fun e => by simp only at e; subst e; exact hne hb)⟩
theorem Wx.cell {X : Nat → Prop} {a b : World} (h : Wx X a b) {p : Addr} {v : Value} (hp : a.cell? p = some v) (hne : ¬X p.block) : b.cell? p = some v := by
  rw [World.cell?_of_block (w := a) (h.block p.block (World.block_lt_of_cell? a p hp) hne)]; exact hp
theorem Wx.frozen {X : Nat → Prop} {a b : World} (h : Wx X a b) {p : Addr} {v : Value} (hp : a.cell? p = some v) (hne : ¬X p.block) : b.frozen? p = a.frozen? p :=
  World.frozen?_of_block (h.block _ (World.block_lt_of_cell? a _ hp) hne)
theorem Wx.gr {X : Nat → Prop} {w a b : World} (h : Wx X a b) (g : Gr w a) (hb : ∀ k, X k → w.heap.size ≤ k) : Gr w b :=
  ⟨h.os.trans g.os, h.tape.trans g.tape, h.output.trans g.output, Nat.le_trans (Gr.size g) h.size, fun k hk => (h.block k (Nat.lt_of_lt_of_le hk (Gr.size g)) (fun e => by have := hb k e; omega)).trans (Below.block g k hk)⟩
theorem RowG.wx {X : Nat → Prop} {w w' : World} {b n : Nat} {V : Nat → Value} (h : RowG w b n V) (g : Wx X w w') (hne : ¬X b) : RowG w' b n V := fun i hi => by
  obtain ⟨h1, h2⟩ := h i hi
  exact ⟨g.cell h1 hne, by rw [g.frozen h1 hne]; exact h2⟩
theorem RowU.wx {X : Nat → Prop} {w w' : World} {b n : Nat} {f : Nat → Nat} (h : RowU w b n f) (g : Wx X w w') (hne : ¬X b) : RowU w' b n f := fun i hi => by
  obtain ⟨h1, h2⟩ := h i hi
  exact ⟨g.cell h1 hne, by rw [g.frozen h1 hne]; exact h2⟩
theorem OrdB.wx {X : Nat → Prop} {w w' : World} {p b1 b2 n : Nat} {f g : Nat → Nat} (h : OrdB w p b1 b2 n f g) (k : Wx X w w') (h0 : ¬X p) (h1 : ¬X b1) (h2 : ¬X b2) : OrdB w' p b1 b2 n f g :=
  ⟨k.cell h.c0 h0, k.cell h.c1 h0, h.r1.wx k h1, h.r2.wx k h2⟩
theorem RdI.wx {X : Nat → Prop} {w w' : World} {b o n : Nat} {f : Nat → Int} (h : RdI w (some ⟨b, o, none⟩) n f) (k : Wx X w w') (hne : ¬X b) : RdI w' (some ⟨b, o, none⟩) n f := by
  rcases h with h | ⟨b', o', e, hc⟩
  · exact .inl h
  · cases e
    exact .inr ⟨b, o, rfl, fun i hi => k.cell (hc i hi) hne⟩

/-- A row of ints, below 0 too. -/
def zV (f : Nat → Int) (i : Nat) : Value := .int .i64 (f i)
theorem zV_cell (f : Nat → Int) (i : Nat) : zV f i = .int .i64 (f i) := rfl
end Go.Firn
