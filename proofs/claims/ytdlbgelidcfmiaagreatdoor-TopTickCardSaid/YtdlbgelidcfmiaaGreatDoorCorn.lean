/- A row of structs of two ints that the call owns, and append of one. -/
import Derived.Test.YtdlbgelidcfmiaaGreatDoorCorm
namespace Go.Firn
open Go.RowKit

/-- The cells of pairs. -/
def pm (ms : List (Int × Int)) : List Value := ms.flatMap fun m => [.int .i64 m.1, .int .i64 m.2]
theorem pm_length (ms : List (Int × Int)) : (pm ms).length = ms.length * 2 := by
  induction ms with
  | nil => rfl
  | cons m ms ih =>
    have : pm (m :: ms) = [.int .i64 m.1, .int .i64 m.2] ++ pm ms := rfl
    rw [this, List.length_append, ih]; simp; omega
theorem pm_append (a b : List (Int × Int)) : pm (a ++ b) = pm a ++ pm b := by simp [pm]
theorem pm_at : ∀ (ms : List (Int × Int)) (i : Nat), i < ms.length → (pm ms)[i * 2]? = some (.int .i64 (ms.getD i (0, 0)).1) ∧ (pm ms)[i * 2 + 1]? = some (.int .i64 (ms.getD i (0, 0)).2) := by
  intro ms
  induction ms with
  | nil => intro i h; simp at h
  | cons m ms ih =>
    intro i h
    have e : pm (m :: ms) = .int .i64 m.1 :: .int .i64 m.2 :: pm ms := rfl
    cases i with
    | zero => rw [e]; exact ⟨rfl, rfl⟩
    | succ i =>
      have := ih i (by simpa using h)
      rw [e, show (i + 1) * 2 = i * 2 + 1 + 1 by omega]
      simpa using this

/-- A row of the call's own that holds these pairs. -/
def OwnM (w0 : World) (e : TypeId) (w : World) (v : Value) (ms : List (Int × Int)) : Prop := w.ownsRow w0.heap.size e 2 v ms.length (pm ms) ∧ Gr w0 w
theorem OwnM.nil' {w0 w : World} (g : Gr w0 w) (e : TypeId) : OwnM w0 e w (.slice none 0 0) [] := ⟨World.ownsRow_nil w _ _ _, g⟩
theorem OwnM.nil (w : World) (e : TypeId) : OwnM w e w (.slice none 0 0) [] := OwnM.nil' (Gr.refl w) e
theorem OwnM.gr {w0 w w' : World} {e : TypeId} {v : Value} {ms : List (Int × Int)} (h : OwnM w0 e w v ms) (g : Gr w w') : OwnM w0 e w' v ms :=
  ⟨h.1.kept (row := none) ⟨g.os, g.tape, g.output, Gr.size g, fun k hk _ => Below.block g k hk⟩ (by cases v.ownBlock <;> simp), h.2.trans g⟩
theorem OwnM.alloc {w0 w : World} {e : TypeId} {v : Value} {ms : List (Int × Int)} (h : OwnM w0 e w v ms) (o : Obj) : OwnM w0 e (w.alloc o) v ms := h.gr ((Gr.refl w).alloc o)
theorem OwnM.drew {w0 w : World} {e : TypeId} {v : Value} {ms : List (Int × Int)} (h : OwnM w0 e w v ms) : OwnM w0 e w.drew v ms := h.gr ((Gr.refl w).drew)

/-- Pairs, read by index. -/
def px (ms : List (Int × Int)) (i : Nat) : Int := (ms.getD i (0, 0)).1
def py (ms : List (Int × Int)) (i : Nat) : Int := (ms.getD i (0, 0)).2

theorem OwnM.rd {w0 w : World} {e : TypeId} {v : Value} {ms : List (Int × Int)} (h : OwnM w0 e w v ms) : ∃ a c, v = .slice a ms.length c ∧ ms.length ≤ c ∧ c ≤ maxLen ∧ RdM w a ms.length (px ms) (py ms) := by
  have h0 := h.1
  obtain ⟨hl, hv⟩ := h.1
  rcases hv with ⟨rfl, hz⟩ | ⟨g, cap, cur, rfl, hb, hg, hnc, hcm, hcs, htake⟩
  · rw [hz]; exact ⟨none, 0, rfl, Nat.le_refl _, by unfold maxLen; omega, .inl rfl⟩
  · refine ⟨_, _, rfl, hnc, hcm, .inr ⟨g, 0, rfl, fun i hi => ?_⟩⟩
    obtain ⟨p0, p1⟩ := pm_at ms i hi
    have c0 := h0.cells (g := g) rfl _ _ p0
    have c1 := h0.cells (g := g) rfl _ _ p1
    rw [add_flat rfl] at c0 c1
    exact ⟨c0, by rw [Nat.add_assoc]; exact c1⟩

/-- A slice of pairs and an error. -/
def RetMs (ms : List (Int × Int)) (err : Int) (w : World) (e : Ending) (w' : World) : Prop :=
  ∃ a c, e = .returned (.tuple #[.slice a ms.length c, .int .i64 err]) ∧ ms.length ≤ c ∧ c ≤ maxLen ∧ RdM w' a ms.length (px ms) (py ms) ∧ Gr w w'
/-- A slice of pairs. -/
def RetM1 (ms : List (Int × Int)) (w : World) (e : Ending) (w' : World) : Prop :=
  ∃ a c, e = .returned (.slice a ms.length c) ∧ ms.length ≤ c ∧ c ≤ maxLen ∧ RdM w' a ms.length (px ms) (py ms) ∧ Gr w w'
theorem OwnM.ret {w0 w : World} {e : TypeId} {v : Value} {ms : List (Int × Int)} (h : OwnM w0 e w v ms) (err : Int) : RetMs ms err w0 (.returned (.tuple #[v, .int .i64 err])) w := by
  obtain ⟨a, c, rfl, h1, h2, h3⟩ := h.rd
  exact ⟨a, c, rfl, h1, h2, h3, h.2⟩
theorem OwnM.ret1 {w0 w : World} {e : TypeId} {v : Value} {ms : List (Int × Int)} (h : OwnM w0 e w v ms) : RetM1 ms w0 (.returned v) w := by
  obtain ⟨a, c, rfl, h1, h2, h3⟩ := h.rd
  exact ⟨a, c, rfl, h1, h2, h3, h.2⟩

theorem info_pair {P : Program} {e : TypeId} (h : (P.info? e).map (fun i => (i.zero, i.size, i.bytes)) = some (some (.agg #[.int .i64 0, .int .i64 0]), 2, 16)) :
    ∃ i, P.info? e = some i ∧ i.zero = some (.agg #[.int .i64 0, .int .i64 0]) ∧ i.size = 2 ∧ i.bytes = 16 := by
  cases hi : P.info? e with
  | none => rw [hi] at h; cases h
  | some i => rw [hi] at h; simp at h; exact ⟨i, rfl, h.1, h.2.1, h.2.2⟩

/-- append(v, m): the row with one pair more. -/
theorem wp_app_pair {P : Program} {o : Oper} {a : Act} {K : Act → World → Prop} {Q : Exit → Act → World → Prop} (s x : Operand) (t e : TypeId)
    (ho : o.op = .call { callee := .builtin .append, args := #[s, x], argTypes := #[t, t] })
    (ht : P.underlying t = some (.slice e)) (hinfo : (P.info? e).map (fun i => (i.zero, i.size, i.bytes)) = some (some (.agg #[.int .i64 0, .int .i64 0]), 2, 16))
    {w0 w : World} (v : Value) (ms : List (Int × Int)) (hs : a.eval s = v) (hown : OwnM w0 e w v ms)
    (g : Nat) (p q : Int) (hx : a.eval x = .slice (some ⟨g, 0, none⟩) 1 1) (hg : w.cell? ⟨g, 0, none⟩ = some (.int .i64 p) ∧ w.cell? ⟨g, 1, none⟩ = some (.int .i64 q)) (hk : ms.length < 1000000000)
    (h : ∀ v' w', OwnM w0 e w' v' (ms ++ [(p, q)]) → w.grownBy w' v.ownBlock → K (a.put o.dst v') w') : o.wp P a w K Q := by
  obtain ⟨i0, hi, hz0, hz1, hz2⟩ := info_pair hinfo
  refine wp_append_own w s x t ho w0.heap.size e i0 _ 2 16 ht hi hz0 hz1 hz2 rfl (by decide) v ms.length (pm ms) hs hown.1 ⟨g, 0, none⟩ 1 1 [.int .i64 p, .int .i64 q] hx rfl ?_ ?_ ?_ ?_ hown.2.size ?_
  · intro j u hu
    rw [add_flat rfl]
    match j, hu with
    | 0, hu => simp at hu; subst hu; exact hg.1
    | 1, hu => simp at hu; subst hu; exact hg.2
    | j + 2, hu => simp at hu
  · simp [Value.oneCell']
  · unfold maxLen; omega
  · omega
  · intro v' w' h1 h2 _
    have e1 : pm ms ++ [.int .i64 p, .int .i64 q] = pm (ms ++ [(p, q)]) := by rw [pm_append]; rfl
    rw [e1] at h1
    refine h v' w' ⟨?_, hown.2.grown h2 fun k hk => (hown.1.lt k hk).1⟩ h2
    rw [List.length_append]
    exact h1

theorem wpList_app_pair {P : Program} {ops : Array Oper} {rest : List Oper} {o : Oper} {a : Act} {Q : Exit → Act → World → Prop} (hgd : o.guard = none) (s x : Operand) (t e : TypeId)
    (ho : o.op = .call { callee := .builtin .append, args := #[s, x], argTypes := #[t, t] })
    (ht : P.underlying t = some (.slice e)) (hinfo : (P.info? e).map (fun i => (i.zero, i.size, i.bytes)) = some (some (.agg #[.int .i64 0, .int .i64 0]), 2, 16))
    {w0 w : World} (v : Value) (ms : List (Int × Int)) (hs : a.eval s = v) (hown : OwnM w0 e w v ms)
    (g : Nat) (p q : Int) (hx : a.eval x = .slice (some ⟨g, 0, none⟩) 1 1) (hg : w.cell? ⟨g, 0, none⟩ = some (.int .i64 p) ∧ w.cell? ⟨g, 1, none⟩ = some (.int .i64 q)) (hk : ms.length < 1000000000)
    (h : ∀ v' w', OwnM w0 e w' v' (ms ++ [(p, q)]) → w.grownBy w' v.ownBlock → wpList P ops Q rest (a.put o.dst v') w') : wpList P ops Q (o :: rest) a w :=
  wpList_plain hgd fun _ hK => wp_app_pair s x t e ho ht hinfo v ms hs hown g p q hx hg hk fun v' w' h1 h2 => hK _ _ (h v' w' h1 h2)

theorem step_app_pair {P : Program} {ops : Array Oper} {o : Oper} {a : Act} {K : Act → World → Prop} {Q : Exit → Act → World → Prop} {E : Prop} (hgd : o.guard = none) (s x : Operand) (t e : TypeId)
    (ho : o.op = .call { callee := .builtin .append, args := #[s, x], argTypes := #[t, t] })
    (ht : P.underlying t = some (.slice e)) (hinfo : (P.info? e).map (fun i => (i.zero, i.size, i.bytes)) = some (some (.agg #[.int .i64 0, .int .i64 0]), 2, 16))
    {w0 w : World} (v : Value) (ms : List (Int × Int)) (hs : a.eval s = v) (hown : OwnM w0 e w v ms)
    (g : Nat) (p q : Int) (hx : a.eval x = .slice (some ⟨g, 0, none⟩) 1 1) (hg : w.cell? ⟨g, 0, none⟩ = some (.int .i64 p) ∧ w.cell? ⟨g, 1, none⟩ = some (.int .i64 q)) (hk : ms.length < 1000000000)
    (h : ∀ v' w', OwnM w0 e w' v' (ms ++ [(p, q)]) → w.grownBy w' v.ownBlock → K (a.put o.dst v') w') :
    if Region.wanted o (yielded ops a.tmps) = true then Oper.wp P o a w K Q else E := by
  have hw : Region.wanted o (yielded ops a.tmps) = true := by simp [Region.wanted, hgd]
  rw [if_pos hw]
  exact wp_app_pair s x t e ho ht hinfo v ms hs hown g p q hx hg hk h

theorem cell_new2 (w : World) (p q : Int) (e : TypeId) : (w.alloc (.cells #[.int .i64 p, .int .i64 q] e)).cell? ⟨w.heap.size, 0, none⟩ = some (.int .i64 p) ∧ (w.alloc (.cells #[.int .i64 p, .int .i64 q] e)).cell? ⟨w.heap.size, 1, none⟩ = some (.int .i64 q) :=
  ⟨(Box2.new rfl).1, (Box2.new rfl).2.1⟩
theorem cell_new2' (w : World) (p q : Int) (e : TypeId) {b : Nat} (hb : w.heap.size = b) : (w.alloc (.cells #[.int .i64 p, .int .i64 q] e)).cell? ⟨b, 0, none⟩ = some (.int .i64 p) ∧ (w.alloc (.cells #[.int .i64 p, .int .i64 q] e)).cell? ⟨b, 1, none⟩ = some (.int .i64 q) :=
  ⟨(Box2.new hb).1, (Box2.new hb).2.1⟩

/-- The first k pairs of two index functions. -/
def pairs (k : Nat) (f g : Nat → Int) : List (Int × Int) := (List.range k).map fun i => (f i, g i)
theorem pairs_succ (k : Nat) (f g : Nat → Int) : pairs (k + 1) f g = pairs k f g ++ [(f k, g k)] := by unfold pairs; rw [List.range_succ, List.map_append]; rfl
theorem pairs_length (k : Nat) (f g : Nat → Int) : (pairs k f g).length = k := by simp [pairs]
theorem px_pairs {k i : Nat} (f g : Nat → Int) (h : i < k) : px (pairs k f g) i = f i := by simp [px, pairs, h]
theorem py_pairs {k i : Nat} (f g : Nat → Int) (h : i < k) : py (pairs k f g) i = g i := by simp [py, pairs, h]

/-- A slice of pairs, told by two index functions, and an error. -/
def RetMf (n : Nat) (f g : Nat → Int) (err : Int) (w : World) (e : Ending) (w' : World) : Prop :=
  ∃ a c, e = .returned (.tuple #[.slice a n c, .int .i64 err]) ∧ n ≤ c ∧ c ≤ maxLen ∧ RdM w' a n f g ∧ Gr w w'
theorem RetMs.mf {n : Nat} {f g : Nat → Int} {err : Int} {w w' : World} {e : Ending} (h : RetMs (pairs n f g) err w e w') : RetMf n f g err w e w' := by
  obtain ⟨a, c, rfl, h1, h2, h3, h4⟩ := h
  rw [pairs_length] at h1 h3
  refine ⟨a, c, by rw [pairs_length], h1, h2, h3.congr fun i hi => ⟨px_pairs f g hi, py_pairs f g hi⟩, h4⟩

end Go.Firn
