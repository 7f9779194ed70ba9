/- What a walk says of worlds and of slices that it reads: Gr (only new blocks), RdI (a slice of ints), RdM (a slice of structs of two ints). -/
import Derived.WalkKit
import Derived.WalkSpells
import Derived.WalkLawsBesides
import Derived.Lib.Hide
namespace Go.Firn
open Go.RowKit

/-- Nothing that was there has turned. -/
def Gr (w w' : World) : Prop := Below w.heap.size w w'

theorem Gr.refl (w : World) : Gr w w := Below.refl _ _
theorem Gr.size {w w' : World} (h : Gr w w') : w.heap.size ≤ w'.heap.size := Below.size h
theorem Gr.trans {a b c : World} (h : Gr a b) (k : Gr b c) : Gr a c := Below.trans h (Below.mono k h.size)
theorem Gr.drew {a w : World} (h : Gr a w) : Gr a w.drew := Below.drew h
theorem Gr.alloc {a w : World} (h : Gr a w) (o : Obj) : Gr a (w.alloc o) := Below.alloc h h.size o
theorem Gr.setCell {a w : World} (h : Gr a w) {p : Addr} (hp : a.heap.size ≤ p.block) (u : Value) : Gr a (w.setCell p u) := Below.setCell h hp u
theorem Gr.grown {a w w' : World} {row : Option Nat} (h : Gr a w) (hg : w.grownBy w' row) (hr : ∀ k, row = some k → a.heap.size ≤ k) : Gr a w' := Below.grown h hg h.size hr
theorem Gr.cell {w w' : World} (h : Gr w w') {p : Addr} {v : Value} (hp : w.cell? p = some v) : w'.cell? p = some v := by
  rw [Below.cell h (World.block_lt_of_cell? w p hp)]; exact hp
theorem Gr.drewN {a w : World} (h : Gr a w) (n : Nat) : Gr a (w.drewN n) := ⟨h.os, h.tape, h.output, h.size, h.block⟩

/-- The slice at a, of n elements, reads as the ints f 0, f 1, .. -/
def RdI (w : World) (a : Option Addr) (n : Nat) (f : Nat → Int) : Prop :=
  n = 0 ∨ ∃ b o, a = some ⟨b, o, none⟩ ∧ ∀ i, i < n → w.cell? ⟨b, o + i, none⟩ = some (.int .i64 (f i))

theorem RdI.gr {w w' : World} {a : Option Addr} {n : Nat} {f : Nat → Int} (h : RdI w a n f) (g : Gr w w') : RdI w' a n f := by
  rcases h with h | ⟨b, o, ha, hc⟩
  · exact .inl h
  · exact .inr ⟨b, o, ha, fun i hi => g.cell (hc i hi)⟩
theorem RdI.congr {w : World} {a : Option Addr} {n : Nat} {f g : Nat → Int} (h : RdI w a n f) (e : ∀ i, i < n → f i = g i) : RdI w a n g := by
  rcases h with h | ⟨b, o, ha, hc⟩
  · exact .inl h
  · exact .inr ⟨b, o, ha, fun i hi => by rw [hc i hi, e i hi]⟩
theorem RdI.nil (w : World) (a : Option Addr) (f : Nat → Int) : RdI w a 0 f := .inl rfl

/-- What the walk needs of the element at k. -/
theorem RdI.at {w : World} {a : Option Addr} {n : Nat} {f : Nat → Int} (h : RdI w a n f) {k : Nat} (hk : k < n) : ∃ b o, a = some ⟨b, o, none⟩ ∧ ∀ i, i < n → w.cell? ⟨b, o + i, none⟩ = some (.int .i64 (f i)) := by
  rcases h with h | h
  · omega
  · exact h

/-- A row of ints that the call owns reads as these ints. -/
theorem RdI.of_owns {w : World} {base e : Nat} {v : Value} {n : Nat} {f : Nat → Int} (h : w.ownsRow base e 1 v n ((List.range n).map fun i => Value.int .i64 (f i))) :
    ∃ a c, v = .slice a n c ∧ n ≤ c ∧ c ≤ maxLen ∧ RdI w a n f := by
  have h0 := h
  obtain ⟨hl, hv⟩ := h
  rcases hv with ⟨rfl, rfl⟩ | ⟨g, cap, cur, rfl, hb, hg, hnc, hcm, hcs, htake⟩
  · exact ⟨none, 0, rfl, Nat.le_refl _, by unfold maxLen; omega, .inl rfl⟩
  · refine ⟨_, _, rfl, hnc, hcm, .inr ⟨g, 0, rfl, fun i hi => ?_⟩⟩
    have hc := h0.cells (g := g) rfl i (.int .i64 (f i)) (by simp [hi])
    have hadd : (⟨g, 0, none⟩ : Addr).add i = ⟨g, 0 + i, none⟩ := by unfold Addr.add; split <;> simp_all
    rw [hadd] at hc
    exact hc

/-- The row with one int more. -/
theorem range_succ_int (k : Nat) (f : Nat → Int) : ((List.range (k + 1)).map fun i => Value.int .i64 (f i)) = ((List.range k).map fun i => Value.int .i64 (f i)) ++ [Value.int .i64 (f k)] := by
  rw [List.range_succ, List.map_append]; rfl

/-- The ends of contracts. -/
def RetB (b : Bool) (w : World) (e : Ending) (w' : World) : Prop := e = .returned (.bool b) ∧ Gr w w'
/-- A slice of ints and an error. -/
def RetIs (n : Nat) (f : Nat → Int) (err : Int) (w : World) (e : Ending) (w' : World) : Prop :=
  ∃ a c, e = .returned (.tuple #[.slice a n c, .int .i64 err]) ∧ n ≤ c ∧ c ≤ maxLen ∧ RdI w' a n f ∧ Gr w w'

/-- The first k numbers as values. -/
def ints (k : Nat) (f : Nat → Int) : List Value := (List.range k).map fun i => Value.int .i64 (f i)
theorem ints_succ (k : Nat) (f : Nat → Int) : ints (k + 1) f = ints k f ++ [Value.int .i64 (f k)] := range_succ_int k f
theorem ints_zero (f : Nat → Int) : ints 0 f = [] := rfl

/-- A row of the call's own that holds f 0 .. f (k - 1). -/
def OwnI (w0 : World) (e : TypeId) (w : World) (v : Value) (k : Nat) (f : Nat → Int) : Prop := w.ownsRow w0.heap.size e 1 v k (ints k f) ∧ Gr w0 w
theorem OwnI.nil (w : World) (e : TypeId) (f : Nat → Int) : OwnI w e w (.slice none 0 0) 0 f := ⟨World.ownsRow_nil w _ _ _, Gr.refl w⟩
theorem OwnI.nil' {w0 w : World} (g : Gr w0 w) (e : TypeId) (f : Nat → Int) : OwnI w0 e w (.slice none 0 0) 0 f := ⟨World.ownsRow_nil w _ _ _, g⟩
theorem OwnI.alloc {w0 w : World} {e : TypeId} {v : Value} {k : Nat} {f : Nat → Int} (h : OwnI w0 e w v k f) (o : Obj) : OwnI w0 e (w.alloc o) v k f := ⟨h.1.alloc o, h.2.alloc o⟩
theorem OwnI.gr {w0 w w' : World} {e : TypeId} {v : Value} {k : Nat} {f : Nat → Int} (h : OwnI w0 e w v k f) (g : Gr w w') : OwnI w0 e w' v k f :=
  ⟨h.1.kept (row := none) ⟨g.os, g.tape, g.output, Gr.size g, fun k hk _ => Below.block g k hk⟩ (by cases v.ownBlock <;> simp), h.2.trans g⟩
theorem OwnI.rd {w0 w : World} {e : TypeId} {v : Value} {k : Nat} {f : Nat → Int} (h : OwnI w0 e w v k f) : ∃ a c, v = .slice a k c ∧ k ≤ c ∧ c ≤ maxLen ∧ RdI w a k f := RdI.of_owns h.1
theorem OwnI.congr {w0 w : World} {e : TypeId} {v : Value} {k : Nat} {f g : Nat → Int} (h : OwnI w0 e w v k f) (hfg : ∀ i, i < k → f i = g i) : OwnI w0 e w v k g := by
  have : ints k f = ints k g := List.map_congr_left fun i hi => by rw [hfg i (by simpa using hi)]
  unfold OwnI at *
  rw [← this]; exact h
theorem OwnI.ret {w0 w : World} {e : TypeId} {v : Value} {k : Nat} {f : Nat → Int} (h : OwnI w0 e w v k f) (err : Int) : RetIs k f err w0 (.returned (.tuple #[v, .int .i64 err])) w := by
  obtain ⟨a, c, rfl, h1, h2, h3⟩ := h.rd
  exact ⟨a, c, rfl, h1, h2, h3, h.2⟩

theorem info_int {P : Program} {e : TypeId} (h : (P.info? e).map (fun i => (i.zero, i.size, i.bytes)) = some (some (.int .i64 0), 1, 8)) :
    ∃ i, P.info? e = some i ∧ i.zero = some (.int .i64 0) ∧ i.size = 1 ∧ i.bytes = 8 := by
  cases hi : P.info? e with
  | none => rw [hi] at h; cases h
  | some i => rw [hi] at h; simp at h; exact ⟨i, rfl, h.1, h.2.1, h.2.2⟩

theorem cell_new1 (w : World) (v : Value) (e : TypeId) : (w.alloc (.cells #[v] e)).cell? ⟨w.heap.size, 0, none⟩ = some v := by simp [World.cell?_alloc_new]

/-- append(v, r): the row with one int more. -/
theorem wp_app_int {P : Program} {o : Oper} {a : Act} {K : Act → World → Prop} {Q : Exit → Act → World → Prop} (s x : Operand) (t e : TypeId)
    (ho : o.op = .call { callee := .builtin .append, args := #[s, x], argTypes := #[t, t] })
    (ht : P.underlying t = some (.slice e)) (hinfo : (P.info? e).map (fun i => (i.zero, i.size, i.bytes)) = some (some (.int .i64 0), 1, 8))
    {w0 w : World} (v : Value) (k : Nat) (f : Nat → Int) (hs : a.eval s = v) (hown : OwnI w0 e w v k f)
    (g : Nat) (r : Int) (hx : a.eval x = .slice (some ⟨g, 0, none⟩) 1 1) (hg : w.cell? ⟨g, 0, none⟩ = some (.int .i64 r)) (hf : f k = r) (hk : k < 1000000000)
    (h : ∀ v' w', OwnI w0 e w' v' (k + 1) f → w.grownBy w' v.ownBlock → K (a.put o.dst v') w') : o.wp P a w K Q := by
  obtain ⟨i0, hi, hz0, hz1, hz2⟩ := info_int hinfo
  subst hf
  refine wp_append_own w s x t ho w0.heap.size e i0 (.int .i64 0) 1 8 ht hi hz0 hz1 hz2 rfl (by decide) v k (ints k f) hs hown.1 ⟨g, 0, none⟩ 1 1 [.int .i64 (f k)] hx rfl ?_ ?_ ?_ ?_ hown.2.size ?_
  · intro j u hu
    cases j with
    | zero => simp at hu; subst hu; exact hg
    | succ j => simp at hu
  · simp [Value.oneCell']
  · unfold maxLen; omega
  · omega
  · intro v' w' h1 h2 _
    rw [← ints_succ] at h1
    exact h v' w' ⟨h1, hown.2.grown h2 fun k hk => (hown.1.lt k hk).1⟩ h2

theorem wpList_app_int {P : Program} {ops : Array Oper} {rest : List Oper} {o : Oper} {a : Act} {Q : Exit → Act → World → Prop} (hgd : o.guard = none) (s x : Operand) (t e : TypeId)
    (ho : o.op = .call { callee := .builtin .append, args := #[s, x], argTypes := #[t, t] })
    (ht : P.underlying t = some (.slice e)) (hinfo : (P.info? e).map (fun i => (i.zero, i.size, i.bytes)) = some (some (.int .i64 0), 1, 8))
    {w0 w : World} (v : Value) (k : Nat) (f : Nat → Int) (hs : a.eval s = v) (hown : OwnI w0 e w v k f)
    (g : Nat) (r : Int) (hx : a.eval x = .slice (some ⟨g, 0, none⟩) 1 1) (hg : w.cell? ⟨g, 0, none⟩ = some (.int .i64 r)) (hf : f k = r) (hk : k < 1000000000)
    (h : ∀ v' w', OwnI w0 e w' v' (k + 1) f → w.grownBy w' v.ownBlock → wpList P ops Q rest (a.put o.dst v') w') : wpList P ops Q (o :: rest) a w :=
  wpList_plain hgd fun _ hK => wp_app_int s x t e ho ht hinfo v k f hs hown g r hx hg hf hk fun v' w' h1 h2 => hK _ _ (h v' w' h1 h2)

/-- The same at a step of a region that draws its order. -/
theorem step_app_int {P : Program} {ops : Array Oper} {o : Oper} {a : Act} {K : Act → World → Prop} {Q : Exit → Act → World → Prop} {E : Prop} (hgd : o.guard = none) (s x : Operand) (t e : TypeId)
    (ho : o.op = .call { callee := .builtin .append, args := #[s, x], argTypes := #[t, t] })
    (ht : P.underlying t = some (.slice e)) (hinfo : (P.info? e).map (fun i => (i.zero, i.size, i.bytes)) = some (some (.int .i64 0), 1, 8))
    {w0 w : World} (v : Value) (k : Nat) (f : Nat → Int) (hs : a.eval s = v) (hown : OwnI w0 e w v k f)
    (g : Nat) (r : Int) (hx : a.eval x = .slice (some ⟨g, 0, none⟩) 1 1) (hg : w.cell? ⟨g, 0, none⟩ = some (.int .i64 r)) (hf : f k = r) (hk : k < 1000000000)
    (h : ∀ v' w', OwnI w0 e w' v' (k + 1) f → w.grownBy w' v.ownBlock → K (a.put o.dst v') w') :
    if Region.wanted o (yielded ops a.tmps) = true then Oper.wp P o a w K Q else E := by
  have hw : Region.wanted o (yielded ops a.tmps) = true := by simp [Region.wanted, hgd]
  rw [if_pos hw]
  exact wp_app_int s x t e ho ht hinfo v k f hs hown g r hx hg hf hk h

theorem OwnI.drew {w0 w : World} {e : TypeId} {v : Value} {k : Nat} {f : Nat → Int} (h : OwnI w0 e w v k f) : OwnI w0 e w.drew v k f := h.gr ((Gr.refl w).drew)
theorem cell_new1d (w : World) (v : Value) (e : TypeId) : (w.alloc (.cells #[v] e)).drew.cell? ⟨w.heap.size, 0, none⟩ = some v := cell_new1 w v e

/-- x / y as a region that draws writes it. -/
theorem wrap_tdiv {x y : Int} (h0 : 0 ≤ x) (h1 : x ≤ 9223372036854775807) (hy : 0 < y) : wrap64 (x.tdiv y) = x / y := by
  rw [Int.tdiv_eq_ediv_of_nonneg h0]
  have a := Int.ediv_nonneg h0 (Int.le_of_lt hy)
  have b := Int.ediv_le_self y h0
  exact IntWalk.wrap64_in _ (by omega)

/-- What a walk is told of a slice of ints that came in. -/
def IsRow (w : World) (a : Option Addr) (len cap : Nat) (zs : List Int) : Prop :=
  (a = none ∧ len = 0 ∧ cap = 0 ∧ zs = []) ∨
  ∃ x, a = some x ∧ len ≤ cap ∧ cap ≤ maxLen ∧ zs.length = cap ∧ (∀ i, i < zs.length → w.cell? (x.add i) = some (.int .i64 (zs.getD i 0))) ∧ ∀ n ∈ zs, (Lit.int .i64 n).wf = true

theorem add_flat {x : Addr} (h : x.spot = none) (i : Nat) : x.add i = ⟨x.block, x.off + i, none⟩ := by
  obtain ⟨b, o, s⟩ := x
  simp only at h
  subst h
  unfold Addr.add
  split
  · subst_vars; simp
  · rfl

theorem IsRow.rd {w : World} {a : Option Addr} {len cap : Nat} {zs : List Int} (h : IsRow w a len cap zs) :
    len ≤ 9223372036854775807 ∧ RdI w a len (fun i => zs.getD i 0) := by
  rcases h with ⟨rfl, rfl, rfl, rfl⟩ | ⟨x, rfl, hl, hm, hz, hc, _⟩
  · exact ⟨by omega, .inl rfl⟩
  · unfold maxLen at hm
    refine ⟨by omega, ?_⟩
    by_cases h0 : len = 0
    · exact .inl h0
    · have hs : x.spot = none := by
        have := World.cell?_spot (hc 0 (by omega))
        simpa [Addr.add] using this
      obtain ⟨b, o, s⟩ := x
      simp only at hs
      subst hs
      exact .inr ⟨b, o, rfl, fun i hi => by rw [← hc i (by omega), add_flat rfl]⟩

end Go.Firn
