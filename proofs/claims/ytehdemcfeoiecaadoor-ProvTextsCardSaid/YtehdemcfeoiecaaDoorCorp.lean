/- A row of products that the call owns; append of one, and of many. -/
import Derived.Test.YtehdemcfeoiecaaDoorP3
namespace Go.Firn
open Go.RowKit Go.Proofs.YtehdemcfeoiecaaDoor

/-- The cells of products. -/
def pk (L : SL) : List Value := L.flatMap fun x => [.string ⟨x.1.toArray⟩, .int .i64 x.2]
theorem pk_length (L : SL) : (pk L).length = L.length * 2 := by
  induction L with
  | nil => rfl
  | cons m ms ih =>
    have : pk (m :: ms) = [.string ⟨m.1.toArray⟩, .int .i64 m.2] ++ pk ms := rfl
    rw [this, List.length_append, ih]; simp; omega
theorem pk_append (a b : SL) : pk (a ++ b) = pk a ++ pk b := by simp [pk]
/-- Products, read by index. -/
def sx (L : SL) (i : Nat) : ByteArray := ⟨(L.getD i ([], 0)).1.toArray⟩
def sy (L : SL) (i : Nat) : Int := (L.getD i ([], 0)).2
theorem ofS_sx (L : SL) : ofS (sx L) (sy L) L.length = L := ofS_of L
theorem pk_at : ∀ (L : SL) (i : Nat), i < L.length → (pk L)[i * 2]? = some (.string (sx L i)) ∧ (pk L)[i * 2 + 1]? = some (.int .i64 (sy L i)) := by
  intro L
  induction L with
  | nil => intro i h; simp at h
  | cons m ms ih =>
    intro i h
    have e : pk (m :: ms) = .string ⟨m.1.toArray⟩ :: .int .i64 m.2 :: pk ms := rfl
    cases i with
    | zero => rw [e]; exact ⟨rfl, rfl⟩
    | succ i =>
      have := ih i (by simpa using h)
      rw [e, show (i + 1) * 2 = i * 2 + 1 + 1 by omega]
      simpa [sx, sy] using this
theorem sx_ofS {f : Nat → ByteArray} {g : Nat → Int} {n i : Nat} (h : i < n) : sx (ofS f g n) i = f i ∧ sy (ofS f g n) i = g i := by
  have := ofS_inj (f := sx (ofS f g n)) (g := sy (ofS f g n)) (n := (ofS f g n).length) (f' := f) (g' := g) (n' := n) (ofS_sx _)
  exact this.2 i (by rw [ofS_length]; exact h)

/-- A row of the call's own that holds these products. -/
def OwnS (w0 : World) (e : TypeId) (w : World) (v : Value) (L : SL) : Prop := w.ownsRow w0.heap.size e 2 v L.length (pk L) ∧ Gr w0 w
theorem OwnS.nil' {w0 w : World} (g : Gr w0 w) (e : TypeId) : OwnS w0 e w (.slice none 0 0) [] := ⟨World.ownsRow_nil w _ _ _, g⟩
theorem OwnS.nil (w : World) (e : TypeId) : OwnS w e w (.slice none 0 0) [] := OwnS.nil' (Gr.refl w) e
theorem OwnS.gr {w0 w w' : World} {e : TypeId} {v : Value} {L : SL} (h : OwnS w0 e w v L) (g : Gr w w') : OwnS w0 e w' v L :=
  ⟨h.1.kept (row := none) ⟨g.os, g.tape, g.output, Gr.size g, fun k hk _ => Below.block g k hk⟩ (by cases v.ownBlock <;> simp), h.2.trans g⟩
theorem OwnS.alloc {w0 w : World} {e : TypeId} {v : Value} {L : SL} (h : OwnS w0 e w v L) (o : Obj) : OwnS w0 e (w.alloc o) v L := h.gr ((Gr.refl w).alloc o)
theorem OwnS.drew {w0 w : World} {e : TypeId} {v : Value} {L : SL} (h : OwnS w0 e w v L) : OwnS w0 e w.drew v L := h.gr ((Gr.refl w).drew)
/-- A write to another block. -/
theorem OwnS.kept {w0 w w' : World} {e : TypeId} {v : Value} {L : SL} (h : OwnS w0 e w v L) {row : Option Nat} (g : w.grownBy w' row) (hne : ∀ b, v.ownBlock = some b → some b ≠ row) (hb : ∀ b, row = some b → w0.heap.size ≤ b) : OwnS w0 e w' v L := by
  refine ⟨h.1.kept g ?_, h.2.grown g hb⟩
  cases hv : v.ownBlock with
  | none => simp
  | some b => right; exact hne b hv

theorem OwnS.rd {w0 w : World} {e : TypeId} {v : Value} {L : SL} (h : OwnS w0 e w v L) : ∃ a c, v = .slice a L.length c ∧ L.length ≤ c ∧ c ≤ maxLen ∧ RdS w a L.length (sx L) (sy L) := by
  have h0 := h.1
  obtain ⟨hl, hv⟩ := h.1
  rcases hv with ⟨rfl, hz⟩ | ⟨g, cap, cur, rfl, hb, hg, hnc, hcm, hcs, htake⟩
  · rw [hz]; exact ⟨none, 0, rfl, Nat.le_refl _, by unfold maxLen; omega, .inl rfl⟩
  · refine ⟨_, _, rfl, hnc, hcm, .inr ⟨g, 0, rfl, fun i hi => ?_⟩⟩
    obtain ⟨p0, p1⟩ := pk_at L i hi
    have c0 := h0.cells (g := g) rfl _ _ p0
    have c1 := h0.cells (g := g) rfl _ _ p1
    rw [add_flat rfl] at c0 c1
    exact ⟨c0, by rw [Nat.add_assoc]; exact c1⟩

/-- A slice of products. -/
def RetS (L : SL) (w : World) (e : Ending) (w' : World) : Prop := ∃ a c, e = .returned (.slice a L.length c) ∧ L.length ≤ c ∧ c ≤ maxLen ∧ RdS w' a L.length (sx L) (sy L) ∧ Gr w w'
/-- .. with a truth. -/
def RetSB (L : SL) (b : Bool) (w : World) (e : Ending) (w' : World) : Prop := ∃ a c, e = .returned (.tuple #[.slice a L.length c, .bool b]) ∧ L.length ≤ c ∧ c ≤ maxLen ∧ RdS w' a L.length (sx L) (sy L) ∧ Gr w w'
/-- .. with an error. -/
def RetSE (L : SL) (E : Int) (w : World) (e : Ending) (w' : World) : Prop := ∃ a c, e = .returned (.tuple #[.slice a L.length c, .int .i64 E]) ∧ L.length ≤ c ∧ c ≤ maxLen ∧ RdS w' a L.length (sx L) (sy L) ∧ Gr w w'
theorem RetSE.none {w w' : World} (g : Gr w w') (E : Int) : RetSE [] E w (.returned (.tuple #[.slice none 0 0, .int .i64 E])) w' := ⟨_, _, rfl, Nat.le_refl _, by unfold maxLen; omega, .inl rfl, g⟩
theorem OwnS.ret {w0 w : World} {e : TypeId} {v : Value} {L : SL} (h : OwnS w0 e w v L) (E : Int) : RetSE L E w0 (.returned (.tuple #[v, .int .i64 E])) w := by
  obtain ⟨a, c, rfl, h1, h2, h3⟩ := h.rd
  exact ⟨a, c, rfl, h1, h2, h3, h.2⟩
theorem OwnS.ret1 {w0 w : World} {e : TypeId} {v : Value} {L : SL} (h : OwnS w0 e w v L) : RetS L w0 (.returned v) w := by
  obtain ⟨a, c, rfl, h1, h2, h3⟩ := h.rd
  exact ⟨a, c, rfl, h1, h2, h3, h.2⟩
theorem OwnS.retB {w0 w : World} {e : TypeId} {v : Value} {L : SL} (h : OwnS w0 e w v L) (b : Bool) : RetSB L b w0 (.returned (.tuple #[v, .bool b])) w := by
  obtain ⟨a, c, rfl, h1, h2, h3⟩ := h.rd
  exact ⟨a, c, rfl, h1, h2, h3, h.2⟩

theorem info_prod {P : Program} {e : TypeId} (h : (P.info? e).map (fun i => (i.zero, i.size, i.bytes)) = some (some (.agg #[.string ⟨#[]⟩, .int .i64 0]), 2, 24)) :
    ∃ i, P.info? e = some i ∧ i.zero = some (.agg #[.string ⟨#[]⟩, .int .i64 0]) ∧ i.size = 2 ∧ i.bytes = 24 := by
  cases hi : P.info? e with
  | none => rw [hi] at h; cases h
  | some i => rw [hi] at h; simp at h; exact ⟨i, rfl, h.1, h.2.1, h.2.2⟩

/-- append(v, s...) of products. -/
theorem wp_cat_prod {P : Program} {o : Oper} {a : Act} {K : Act → World → Prop} {Q : Exit → Act → World → Prop} (s x : Operand) (t e : TypeId)
    (ho : o.op = .call { callee := .builtin .append, args := #[s, x], argTypes := #[t, t] })
    (ht : P.underlying t = some (.slice e)) (hinfo : (P.info? e).map (fun i => (i.zero, i.size, i.bytes)) = some (some (.agg #[.string ⟨#[]⟩, .int .i64 0]), 2, 24))
    {w0 w : World} (v : Value) (L : SL) (hs : a.eval s = v) (hown : OwnS w0 e w v L)
    (b off n c : Nat) (F : Nat → ByteArray) (G : Nat → Int) (hx : a.eval x = .slice (some ⟨b, off, none⟩) n c) (hc : ∀ i, i < n → w.cell? ⟨b, off + i * 2, none⟩ = some (.string (F i)) ∧ w.cell? ⟨b, off + i * 2 + 1, none⟩ = some (.int .i64 (G i))) (hk : L.length + n ≤ 1000000)
    (h : ∀ v' w', OwnS w0 e w' v' (L ++ ofS F G n) → w.grownBy w' v.ownBlock → K (a.put o.dst v') w') : o.wp P a w K Q := by
  obtain ⟨i0, hi, hz0, hz1, hz2⟩ := info_prod hinfo
  refine wp_append_own w s x t ho w0.heap.size e i0 _ 2 24 ht hi hz0 hz1 hz2 rfl (by decide) v L.length (pk L) hs hown.1 ⟨b, off, none⟩ n c (pk (ofS F G n)) hx (by rw [pk_length, ofS_length]) ?_ ?_ ?_ ?_ hown.2.size ?_
  · intro j u hu
    rw [add_flat rfl]
    have hj : j < n * 2 := by
      rcases Nat.lt_or_ge j (n * 2) with h | h
      · exact h
      · rw [List.getElem?_eq_none (by rw [pk_length, ofS_length]; exact h)] at hu; cases hu
    obtain ⟨p0, p1⟩ := pk_at (ofS F G n) (j / 2) (by rw [ofS_length]; omega)
    obtain ⟨e0, e1⟩ := sx_ofS (f := F) (g := G) (show j / 2 < n by omega)
    rw [e0] at p0
    rw [e1] at p1
    rcases Nat.mod_two_eq_zero_or_one j with h | h
    · have ej : j = j / 2 * 2 := by omega
      rw [ej, p0] at hu
      cases hu
      show w.cell? ⟨b, off + j, none⟩ = _
      rw [ej]
      have := (hc (j / 2) (by omega)).1
      rw [show j / 2 * 2 / 2 = j / 2 by omega]
      exact this
    · have ej : j = j / 2 * 2 + 1 := by omega
      rw [ej, p1] at hu
      cases hu
      show w.cell? ⟨b, off + j, none⟩ = _
      rw [ej, ← Nat.add_assoc]
      have := (hc (j / 2) (by omega)).2
      rw [show (j / 2 * 2 + 1) / 2 = j / 2 by omega]
      exact this
  · intro u hu
    unfold pk at hu
    rw [List.mem_flatMap] at hu
    obtain ⟨m, _, hm⟩ := hu
    simp at hm
    rcases hm with rfl | rfl <;> rfl
  · unfold maxLen; omega
  · omega
  · intro v' w' h1 h2 _
    rw [← pk_append] at h1
    refine h v' w' ⟨?_, hown.2.grown h2 fun k hk => (hown.1.lt k hk).1⟩ h2
    rw [List.length_append, ofS_length]
    exact h1
/-- append(v, m): the row with one product more. -/
theorem wp_app_prod {P : Program} {o : Oper} {a : Act} {K : Act → World → Prop} {Q : Exit → Act → World → Prop} (s x : Operand) (t e : TypeId)
    (ho : o.op = .call { callee := .builtin .append, args := #[s, x], argTypes := #[t, t] })
    (ht : P.underlying t = some (.slice e)) (hinfo : (P.info? e).map (fun i => (i.zero, i.size, i.bytes)) = some (some (.agg #[.string ⟨#[]⟩, .int .i64 0]), 2, 24))
    {w0 w : World} (v : Value) (L : SL) (hs : a.eval s = v) (hown : OwnS w0 e w v L)
    (g : Nat) (p : ByteArray) (q : Int) (hx : a.eval x = .slice (some ⟨g, 0, none⟩) 1 1) (hg : w.cell? ⟨g, 0, none⟩ = some (.string p) ∧ w.cell? ⟨g, 1, none⟩ = some (.int .i64 q)) (hk : L.length < 999999)
    (h : ∀ v' w', OwnS w0 e w' v' (L ++ [(p.data.toList, q)]) → w.grownBy w' v.ownBlock → K (a.put o.dst v') w') : o.wp P a w K Q :=
  wp_cat_prod s x t e ho ht hinfo v L hs hown g 0 1 1 (fun _ => p) (fun _ => q) hx (fun i hi => by
    obtain rfl : i = 0 := by omega
    exact hg) (by omega) h
section
variable {P : Program} {ops : Array Oper} {rest : List Oper} {o : Oper} {a : Act} {Q : Exit → Act → World → Prop}
theorem wpList_cat_prod (hgd : o.guard = none) (s x : Operand) (t e : TypeId)
    (ho : o.op = .call { callee := .builtin .append, args := #[s, x], argTypes := #[t, t] })
    (ht : P.underlying t = some (.slice e)) (hinfo : (P.info? e).map (fun i => (i.zero, i.size, i.bytes)) = some (some (.agg #[.string ⟨#[]⟩, .int .i64 0]), 2, 24))
    {w0 w : World} (v : Value) (L : SL) (hs : a.eval s = v) (hown : OwnS w0 e w v L)
    (b off n c : Nat) (F : Nat → ByteArray) (G : Nat → Int) (hx : a.eval x = .slice (some ⟨b, off, none⟩) n c) (hc : ∀ i, i < n → w.cell? ⟨b, off + i * 2, none⟩ = some (.string (F i)) ∧ w.cell? ⟨b, off + i * 2 + 1, none⟩ = some (.int .i64 (G i))) (hk : L.length + n ≤ 1000000)
    (h : ∀ v' w', OwnS w0 e w' v' (L ++ ofS F G n) → w.grownBy w' v.ownBlock → wpList P ops Q rest (a.put o.dst v') w') : wpList P ops Q (o :: rest) a w :=
  wpList_plain hgd fun _ hK => wp_cat_prod s x t e ho ht hinfo v L hs hown b off n c F G hx hc hk fun v' w' h1 h2 => hK _ _ (h v' w' h1 h2)
theorem wpList_app_prod (hgd : o.guard = none) (s x : Operand) (t e : TypeId)
    (ho : o.op = .call { callee := .builtin .append, args := #[s, x], argTypes := #[t, t] })
    (ht : P.underlying t = some (.slice e)) (hinfo : (P.info? e).map (fun i => (i.zero, i.size, i.bytes)) = some (some (.agg #[.string ⟨#[]⟩, .int .i64 0]), 2, 24))
    {w0 w : World} (v : Value) (L : SL) (hs : a.eval s = v) (hown : OwnS w0 e w v L)
    (g : Nat) (p : ByteArray) (q : Int) (hx : a.eval x = .slice (some ⟨g, 0, none⟩) 1 1) (hg : w.cell? ⟨g, 0, none⟩ = some (.string p) ∧ w.cell? ⟨g, 1, none⟩ = some (.int .i64 q)) (hk : L.length < 999999)
    (h : ∀ v' w', OwnS w0 e w' v' (L ++ [(p.data.toList, q)]) → w.grownBy w' v.ownBlock → wpList P ops Q rest (a.put o.dst v') w') : wpList P ops Q (o :: rest) a w :=
  wpList_plain hgd fun _ hK => wp_app_prod s x t e ho ht hinfo v L hs hown g p q hx hg hk fun v' w' h1 h2 => hK _ _ (h v' w' h1 h2)
end

end Go.Firn
