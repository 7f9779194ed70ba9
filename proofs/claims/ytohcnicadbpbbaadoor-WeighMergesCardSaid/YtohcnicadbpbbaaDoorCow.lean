/- Slices of slices of ints: RdT (read), OwnT (a table of the call's own), append of one list. -/
import Derived.Test.YtohcnicadbpbbaaDoorWV
namespace Go.Firn
open Go.RowKit

/-- The slice at a, of n slices of ints, reads as r 0, r 1, ..: how many ints, and which. -/
def RdT (w : World) (a : Option Addr) (n : Nat) (r : Nat → Nat × (Nat → Int)) : Prop :=
  n = 0 ∨ ∃ b o, a = some ⟨b, o, none⟩ ∧ ∀ i, i < n → ∃ ai ci, w.cell? ⟨b, o + i, none⟩ = some (.slice ai (r i).1 ci) ∧ (r i).1 ≤ ci ∧ ci ≤ maxLen ∧ RdI w ai (r i).1 (r i).2
theorem RdT.gr {w w' : World} {a : Option Addr} {n : Nat} {r : Nat → Nat × (Nat → Int)} (h : RdT w a n r) (g : Gr w w') : RdT w' a n r := by
  rcases h with h | ⟨b, o, ha, hc⟩
  · exact .inl h
  · refine .inr ⟨b, o, ha, fun i hi => ?_⟩
    obtain ⟨ai, ci, h1, h2, h3, h4⟩ := hc i hi
    exact ⟨ai, ci, g.cell h1, h2, h3, h4.gr g⟩
theorem RdT.at {w : World} {a : Option Addr} {n : Nat} {r : Nat → Nat × (Nat → Int)} (h : RdT w a n r) {k : Nat} (hk : k < n) :
    ∃ b o ai ci, a = some ⟨b, o, none⟩ ∧ w.cell? ⟨b, o + k, none⟩ = some (.slice ai (r k).1 ci) ∧ (r k).1 ≤ ci ∧ ci ≤ maxLen ∧ RdI w ai (r k).1 (r k).2 := by
  rcases h with h | ⟨b, o, ha, hc⟩
  · omega
  · obtain ⟨ai, ci, h1, h2, h3, h4⟩ := hc k hk
    exact ⟨b, o, ai, ci, ha, h1, h2, h3, h4⟩

/-- A list of lists, read by index. -/
def tr (f : List Nat → Nat → Int) (tb : List (List Nat)) (i : Nat) : Nat × (Nat → Int) := ((tb.getD i []).length, f (tb.getD i []))

/-- What lies in a row of the call's own: a slice that holds l, in another block than v's. -/
def Holds (base : Nat) (w : World) (v : Value) (f : List Nat → Nat → Int) (x : Value) (l : List Nat) : Prop :=
  ∃ a c, x = .slice a l.length c ∧ l.length ≤ c ∧ c ≤ maxLen ∧ RdI w a l.length (f l) ∧ (l.length = 0 ∨ ∃ b o, a = some ⟨b, o, none⟩ ∧ b < w.heap.size ∧ some b ≠ v.ownBlock ∧ base ≤ b)
/-- A table of the call's own. -/
def OwnT (w0 : World) (base : Nat) (f : List Nat → Nat → Int) (w : World) (v : Value) (tb : List (List Nat)) : Prop :=
  (Gr w0 w ∧ w0.heap.size ≤ base ∧ base ≤ w.heap.size) ∧ ∃ xs : List Value, w.ownsRow base 22 1 v tb.length xs ∧ ∀ i, i < tb.length → ∃ x, xs[i]? = some x ∧ Holds base w v f x (tb.getD i [])

theorem Holds.gr {base : Nat} {w w' : World} {v x : Value} {f : List Nat → Nat → Int} {l : List Nat} (h : Holds base w v f x l) (g : Gr w w') : Holds base w' v f x l := by
  obtain ⟨a, c, h1, h2, h3, h4, h5⟩ := h
  refine ⟨a, c, h1, h2, h3, h4.gr g, ?_⟩
  rcases h5 with h5 | ⟨b, o, k1, k2, k3⟩
  · exact .inl h5
  · exact .inr ⟨b, o, k1, Nat.lt_of_lt_of_le k2 g.size, k3⟩
theorem OwnT.nil' {w0 w : World} {base : Nat} (g : Gr w0 w) (h1 : w0.heap.size ≤ base) (h2 : base ≤ w.heap.size) (f : List Nat → Nat → Int) : OwnT w0 base f w (.slice none 0 0) [] := ⟨⟨g, h1, h2⟩, [], World.ownsRow_nil w _ _ _, fun i hi => by simp at hi⟩
theorem OwnT.gr {w0 w w' : World} {base : Nat} {f : List Nat → Nat → Int} {v : Value} {tb : List (List Nat)} (h : OwnT w0 base f w v tb) (g : Gr w w') : OwnT w0 base f w' v tb := by
  obtain ⟨h0, xs, h1, h2⟩ := h
  refine ⟨⟨h0.1.trans g, h0.2.1, Nat.le_trans h0.2.2 g.size⟩, xs, h1.kept (row := none) ⟨g.os, g.tape, g.output, Gr.size g, fun k hk _ => Below.block g k hk⟩ (by cases v.ownBlock <;> simp), fun i hi => ?_⟩
  obtain ⟨x, hx, hh⟩ := h2 i hi
  exact ⟨x, hx, hh.gr g⟩
theorem OwnT.lt {w0 w : World} {base : Nat} {f : List Nat → Nat → Int} {v : Value} {tb : List (List Nat)} (h : OwnT w0 base f w v tb) {b : Nat} (hb : v.ownBlock = some b) : b < w.heap.size := by
  obtain ⟨_, xs, h1, _⟩ := h
  exact (h1.lt b hb).2
theorem OwnT.rd {w0 w : World} {base : Nat} {f : List Nat → Nat → Int} {v : Value} {tb : List (List Nat)} (h : OwnT w0 base f w v tb) : ∃ a c, v = .slice a tb.length c ∧ tb.length ≤ c ∧ c ≤ maxLen ∧ RdT w a tb.length (tr f tb) := by
  obtain ⟨h0, xs, h1, h2⟩ := h
  have h1' := h1
  obtain ⟨hl, hv⟩ := h1'
  rcases hv with ⟨rfl, hz⟩ | ⟨g, cap, cur, rfl, hb, hg, hnc, hcm, hcs, htake⟩
  · rw [hz]; exact ⟨none, 0, rfl, Nat.le_refl _, by unfold maxLen; omega, .inl rfl⟩
  · refine ⟨_, _, rfl, hnc, hcm, .inr ⟨g, 0, rfl, fun i hi => ?_⟩⟩
    obtain ⟨x, hx, ai, ci, rfl, k1, k2, k3, _⟩ := h2 i hi
    have c0 := h1.cells (g := g) rfl _ _ hx
    rw [add_flat rfl] at c0
    exact ⟨ai, ci, c0, k1, k2, k3⟩

theorem info_slice {P : Program} {e : TypeId} (h : (P.info? e).map (fun i => (i.zero, i.size, i.bytes)) = some (some (.slice none 0 0), 1, 24)) :
    ∃ i, P.info? e = some i ∧ i.zero = some (.slice none 0 0) ∧ i.size = 1 ∧ i.bytes = 24 := by
  cases hi : P.info? e with
  | none => rw [hi] at h; cases h
  | some i => rw [hi] at h; simp at h; exact ⟨i, rfl, h.1, h.2.1, h.2.2⟩

/-- append(v, l): the table with one list more. The list lies in a block that came behind the table. -/
theorem wpList_app_list {P : Program} {ops : Array Oper} {rest : List Oper} {o : Oper} {a : Act} {Q : Exit → Act → World → Prop} (hgd : o.guard = none) (s x : Operand) (t : TypeId)
    (ho : o.op = .call { callee := .builtin .append, args := #[s, x], argTypes := #[t, t] })
    (ht : P.underlying t = some (.slice 22)) (hinfo : (P.info? 22).map (fun i => (i.zero, i.size, i.bytes)) = some (some (.slice none 0 0), 1, 24))
    {w0 w : World} {base : Nat} (f : List Nat → Nat → Int) (v : Value) (tb : List (List Nat)) (hs : a.eval s = v) (hown : OwnT w0 base f w v tb)
    (g : Nat) (y : Value) (l : List Nat) (hx : a.eval x = .slice (some ⟨g, 0, none⟩) 1 1) (hg : w.cell? ⟨g, 0, none⟩ = some y) (hy : Holds base w v f y l) (hk : tb.length < 1000000)
    (h : ∀ v' w', OwnT w0 base f w' v' (tb ++ [l]) → w.grownBy w' v.ownBlock → wpList P ops Q rest (a.put o.dst v') w') : wpList P ops Q (o :: rest) a w := by
  obtain ⟨h0, xs, h1, h2⟩ := hown
  obtain ⟨i0, hi, hz0, hz1, hz2⟩ := info_slice hinfo
  have hone : y.oneCell' = true := by obtain ⟨a', c', rfl, _⟩ := hy; rfl
  refine wpList_append_own_at w hgd s x t ho base 22 i0 (.slice none 0 0) 1 24 ht hi hz0 hz1 hz2 rfl (by decide) v tb.length xs hs h1 ⟨g, 0, none⟩ 1 1 [y] hx rfl ?_ ?_ ?_ ?_ h0.2.2 ?_
  · intro j u hu
    cases j with
    | zero => simp at hu; subst hu; exact hg
    | succ j => simp at hu
  · intro u hu; simp at hu; subst hu; exact hone
  · unfold maxLen; omega
  · omega
  · intro v' w' k1 k2 _ k4
    refine h v' w' ⟨⟨h0.1.grown k2 fun k hk => Nat.le_trans h0.2.1 (h1.lt k hk).1, h0.2.1, Nat.le_trans h0.2.2 k2.size⟩, xs ++ [y], by rw [List.length_append]; exact k1, fun i hi => ?_⟩ k2
    have hxl : xs.length = tb.length := by have := h1.1; omega
    have keep : ∀ z l', Holds base w v f z l' → Holds base w' v' f z l' := by
      rintro z l' ⟨a', c', e1, e2, e3, e4, e5⟩
      refine ⟨a', c', e1, e2, e3, ?_, ?_⟩
      · rcases e5 with e5 | ⟨b, o, rfl, e6, e7, e10⟩
        · exact .inl e5
        · rcases e4 with e4 | ⟨b', o', e8, e9⟩
          · exact .inl e4
          · cases e8
            exact .inr ⟨b, o, rfl, fun j hj => k2.cell (e9 j hj) e7⟩
      · rcases e5 with e5 | ⟨b, o, rfl, e6, e7, e10⟩
        · exact .inl e5
        · refine .inr ⟨b, o, rfl, Nat.lt_of_lt_of_le e6 k2.size, ?_, e10⟩
          rcases k4 with k4 | k4
          · rw [k4]; exact e7
          · rw [k4]; intro e; cases e; omega
    rw [List.length_append] at hi
    by_cases e : i < tb.length
    · obtain ⟨z, hz, hh⟩ := h2 i e
      refine ⟨z, by rw [List.getElem?_append_left (by omega)]; exact hz, ?_⟩
      have : (tb ++ [l]).getD i [] = tb.getD i [] := by rw [List.getD, List.getD, List.getElem?_append_left e]
      rw [this]
      exact keep _ _ hh
    · have ei : i = tb.length := by simp at hi; omega
      subst ei
      refine ⟨y, by rw [List.getElem?_append_right (by omega), hxl]; simp, ?_⟩
      have : (tb ++ [l]).getD tb.length [] = l := by rw [List.getD, List.getElem?_append_right (by omega)]; simp
      rw [this]
      exact keep _ _ hy

theorem OwnT.ne {w0 w : World} {base : Nat} {f : List Nat → Nat → Int} {v : Value} {tb : List (List Nat)} (h : OwnT w0 base f w v tb) {b : Nat} (hb : b < base) : some b ≠ v.ownBlock := fun e => by
  obtain ⟨_, xs, h1, _⟩ := h
  have := (h1.lt b e.symm).1
  omega
/-- A cell is written in a block between the start and the table's. -/
theorem OwnT.set {w0 w : World} {base : Nat} {f : List Nat → Nat → Int} {v : Value} {tb : List (List Nat)} (h : OwnT w0 base f w v tb) {b j : Nat} (h1 : w0.heap.size ≤ b) (h2 : b < base) (u : Value) : OwnT w0 base f (w.setCell ⟨b, j, none⟩ u) v tb := by
  obtain ⟨h0, xs, k1, k2⟩ := h
  refine ⟨⟨h0.1.setAt h1 u, h0.2.1, by simpa using h0.2.2⟩, xs, ownsRow_setCell_other k1 (fun e => by have := (k1.lt b e).1; omega) u, fun i hi => ?_⟩
  obtain ⟨x, hx, a, c, rfl, e2, e3, e4, e5⟩ := k2 i hi
  refine ⟨_, hx, a, c, rfl, e2, e3, ?_, ?_⟩
  · rcases e5 with e5 | ⟨b', o, rfl, e6, e7, e8⟩
    · exact .inl e5
    · rcases e4 with e4 | ⟨b2, o2, e9, e10⟩
      · exact .inl e4
      · cases e9
        refine .inr ⟨b', o, rfl, fun j hj => ?_⟩
        rw [World.cell?_setCell_other _ _ _ _ (fun e => by have := congrArg Addr.block e; simp at this; omega)]
        exact e10 j hj
  · rcases e5 with e5 | ⟨b', o, rfl, e6, e7, e8⟩
    · exact .inl e5
    · exact .inr ⟨b', o, rfl, by simpa using e6, e7, e8⟩


end Go.Firn
