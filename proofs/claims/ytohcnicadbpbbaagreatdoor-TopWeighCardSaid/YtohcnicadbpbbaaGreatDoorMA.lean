/- What a walk says of worlds and of slices that it reads: Gr (only new blocks), RdI (a slice of ints), RdM (a slice of structs of two ints). What a walk says of slices of structs of two ints: RdM (read by two index functions), OwnM (a row of the call's own, a list of pairs); opening arguments. A row of structs of two ints that the call owns, and append of one. What a walk says of a block that is written (Wr), and of a struct of three ints in a block (Box3). Plain arithmetic of fractions in lowest terms. Contracts of chapter 7: the greatest common divisor and the fraction in lowest terms, of the program and of the reference. Contracts of chapter 7: between, sums of weights, whether some weight is out of range, which weights are valid, of the program and of the reference; the weights of a cut. Contracts of chapter 7: which weights are valid, of the program and of the reference. Contracts of chapter 7: which odds are valid, of the program and of the reference; Long. -/
import Derived.WalkKit
import Derived.WalkSpells
import Derived.WalkLawsBesides
import Derived.Lib.Hide
import Derived.ProofKit
import Derived.Deep.SlicePairs
import Derived.Lib.SmallJoins
import Derived.Test.YtohcnicadbpbbaaGreatDoorRows
import Derived.Test.YtohcnicadbpbbaaGreatDoorProg
import Derived.Deep.QuietTactic
import Derived.BigQuiet
import Derived.BigRegion
import Derived.Laws.EntriesVeiled
namespace Go.Firn
open Go.RowKit

/-- Nothing that was there has turned. -/
def Gr (w w' : World) : Prop := Below w.heap.size w w'

theorem Gr.refl (w : World) : Gr w w := Below.refl _ _
theorem Gr.size {w w' : World} (h : Gr w w') : w.heap.size ≤ w'.heap.size := Below.size h
theorem Gr.trans {a b c : World} (h : Gr a b) (k : Gr b c) : Gr a c := Below.trans h (Below.mono k h.size)
theorem Gr.drew {a w : World} (h : Gr a w) : Gr a w.drew := Below.drew h
theorem Gr.alloc {a w : World} (h : Gr a w) (o : Obj) : Gr a (w.alloc o) := Below.alloc h h.size o
theorem Gr.setCell {a w : World} (h : Gr a w) {p : Addr} (hp : a.heap.size ≤ p.block) (u : Value) : Gr a (w.setCell p u) := Below.setCell h hp u
theorem Gr.grown {a w w' : World} {row : Option Nat} (h : Gr a w) (hg : w.grownBy w' row) (hr : ∀ k, row = some k → a.heap.size ≤ k) : Gr a w' := Below.grown h hg h.size hr
theorem Gr.cell {w w' : World} (h : Gr w w') {p : Addr} {v : Value} (hp : w.cell? p = some v) : w'.cell? p = some v := by
  rw [Below.cell h (World.block_lt_of_cell? w p hp)]; exact hp
theorem Gr.drewN {a w : World} (h : Gr a w) (n : Nat) : Gr a (w.drewN n) := ⟨h.os, h.tape, h.output, h.size, h.block⟩

/-- The slice at a, of n elements, reads as the ints f 0, f 1, .. -/
def RdI (w : World) (a : Option Addr) (n : Nat) (f : Nat → Int) : Prop :=
  n = 0 ∨ ∃ b o, a = some ⟨b, o, none⟩ ∧ ∀ i, i < n → w.cell? ⟨b, o + i, none⟩ = some (.int .i64 (f i))

theorem RdI.gr {w w' : World} {a : Option Addr} {n : Nat} {f : Nat → Int} (h : RdI w a n f) (g : Gr w w') : RdI w' a n f := by
  rcases h with h | ⟨b, o, ha, hc⟩
  · exact .inl h
  · exact .inr ⟨b, o, ha, fun i hi => g.cell (hc i hi)⟩
theorem RdI.congr {w : World} {a : Option Addr} {n : Nat} {f g : Nat → Int} (h : RdI w a n f) (e : ∀ i, i < n → f i = g i) : RdI w a n g := by
  rcases h with h | ⟨b, o, ha, hc⟩
  · exact .inl h
  · exact .inr ⟨b, o, ha, fun i hi => by rw [hc i hi, e i hi]⟩
theorem RdI.nil (w : World) (a : Option Addr) (f : Nat → Int) : RdI w a 0 f := .inl rfl

/-- What the walk needs of the element at k. -/
theorem RdI.at {w : World} {a : Option Addr} {n : Nat} {f : Nat → Int} (h : RdI w a n f) {k : Nat} (hk : k < n) : ∃ b o, a = some ⟨b, o, none⟩ ∧ ∀ i, i < n → w.cell? ⟨b, o + i, none⟩ = some (.int .i64 (f i)) := by
  rcases h with h | h
  · omega
  · exact h

/-- A row of ints that the call owns reads as these ints. -/
theorem RdI.of_owns {w : World} {base e : Nat} {v : Value} {n : Nat} {f : Nat → Int} (h : w.ownsRow base e 1 v n ((List.range n).map fun i => Value.int .i64 (f i))) :
    ∃ a c, v = .slice a n c ∧ n ≤ c ∧ c ≤ maxLen ∧ RdI w a n f := by
  have h0 := h
  obtain ⟨hl, hv⟩ := h
  rcases hv with ⟨rfl, rfl⟩ | ⟨g, cap, cur, rfl, hb, hg, hnc, hcm, hcs, htake⟩
  · exact ⟨none, 0, rfl, Nat.le_refl _, by unfold maxLen; omega, .inl rfl⟩
  · refine ⟨_, _, rfl, hnc, hcm, .inr ⟨g, 0, rfl, fun i hi => ?_⟩⟩
    have hc := h0.cells (g := g) rfl i (.int .i64 (f i)) (by simp [hi])
    have hadd : (⟨g, 0, none⟩ : Addr).add i = ⟨g, 0 + i, none⟩ := by unfold Addr.add; split <;> simp_all
    rw [hadd] at hc
    exact hc

/-- The row with one int more. -/
theorem range_succ_int (k : Nat) (f : Nat → Int) : ((List.range (k + 1)).map fun i => Value.int .i64 (f i)) = ((List.range k).map fun i => Value.int .i64 (f i)) ++ [Value.int .i64 (f k)] := by
  rw [List.range_succ, List.map_append]; rfl

/-- The ends of contracts. -/
def RetB (b : Bool) (w : World) (e : Ending) (w' : World) : Prop := e = .returned (.bool b) ∧ Gr w w'
/-- A slice of ints and an error. -/
def RetIs (n : Nat) (f : Nat → Int) (err : Int) (w : World) (e : Ending) (w' : World) : Prop :=
  ∃ a c, e = .returned (.tuple #[.slice a n c, .int .i64 err]) ∧ n ≤ c ∧ c ≤ maxLen ∧ RdI w' a n f ∧ Gr w w'

/-- The first k numbers as values. -/
def ints (k : Nat) (f : Nat → Int) : List Value := (List.range k).map fun i => Value.int .i64 (f i)
theorem ints_succ (k : Nat) (f : Nat → Int) : ints (k + 1) f = ints k f ++ [Value.int .i64 (f k)] := range_succ_int k f
theorem ints_zero (f : Nat → Int) : ints 0 f = [] := rfl

/-- A row of the call's own that holds f 0 .. f (k - 1). -/
def OwnI (w0 : World) (e : TypeId) (w : World) (v : Value) (k : Nat) (f : Nat → Int) : Prop := w.ownsRow w0.heap.size e 1 v k (ints k f) ∧ Gr w0 w
theorem OwnI.nil (w : World) (e : TypeId) (f : Nat → Int) : OwnI w e w (.slice none 0 0) 0 f := ⟨World.ownsRow_nil w _ _ _, Gr.refl w⟩
theorem OwnI.nil' {w0 w : World} (g : Gr w0 w) (e : TypeId) (f : Nat → Int) : OwnI w0 e w (.slice none 0 0) 0 f := ⟨World.ownsRow_nil w _ _ _, g⟩
theorem OwnI.alloc {w0 w : World} {e : TypeId} {v : Value} {k : Nat} {f : Nat → Int} (h : OwnI w0 e w v k f) (o : Obj) : OwnI w0 e (w.alloc o) v k f := ⟨h.1.alloc o, h.2.alloc o⟩
theorem OwnI.gr {w0 w w' : World} {e : TypeId} {v : Value} {k : Nat} {f : Nat → Int} (h : OwnI w0 e w v k f) (g : Gr w w') : OwnI w0 e w' v k f :=
  ⟨h.1.kept (row := none) ⟨g.os, g.tape, g.output, Gr.size g, fun k hk _ => Below.block g k hk⟩ (by cases v.ownBlock <;> simp), h.2.trans g⟩
theorem OwnI.rd {w0 w : World} {e : TypeId} {v : Value} {k : Nat} {f : Nat → Int} (h : OwnI w0 e w v k f) : ∃ a c, v = .slice a k c ∧ k ≤ c ∧ c ≤ maxLen ∧ RdI w a k f := RdI.of_owns h.1
theorem OwnI.congr {w0 w : World} {e : TypeId} {v : Value} {k : Nat} {f g : Nat → Int} (h : OwnI w0 e w v k f) (hfg : ∀ i, i < k → f i = g i) : OwnI w0 e w v k g := by
  have : ints k f = ints k g := List.map_congr_left fun i hi => by rw [hfg i (by simpa using hi)]
  unfold OwnI at *
  rw [← this]; exact h
theorem OwnI.ret {w0 w : World} {e : TypeId} {v : Value} {k : Nat} {f : Nat → Int} (h : OwnI w0 e w v k f) (err : Int) : RetIs k f err w0 (.returned (.tuple #[v, .int .i64 err])) w := by
  obtain ⟨a, c, rfl, h1, h2, h3⟩ := h.rd
  exact ⟨a, c, rfl, h1, h2, h3, h.2⟩

theorem info_int {P : Program} {e : TypeId} (h : (P.info? e).map (fun i => (i.zero, i.size, i.bytes)) = some (some (.int .i64 0), 1, 8)) :
    ∃ i, P.info? e = some i ∧ i.zero = some (.int .i64 0) ∧ i.size = 1 ∧ i.bytes = 8 := by
  cases hi : P.info? e with
  | none => rw [hi] at h; cases h
  | some i => rw [hi] at h; simp at h; exact ⟨i, rfl, h.1, h.2.1, h.2.2⟩

theorem cell_new1 (w : World) (v : Value) (e : TypeId) : (w.alloc (.cells #[v] e)).cell? ⟨w.heap.size, 0, none⟩ = some v := by simp [World.cell?_alloc_new]

/-- append(v, r): the row with one int more. -/
theorem wp_app_int {P : Program} {o : Oper} {a : Act} {K : Act → World → Prop} {Q : Exit → Act → World → Prop} (s x : Operand) (t e : TypeId)
    (ho : o.op = .call { callee := .builtin .append, args := #[s, x], argTypes := #[t, t] })
    (ht : P.underlying t = some (.slice e)) (hinfo : (P.info? e).map (fun i => (i.zero, i.size, i.bytes)) = some (some (.int .i64 0), 1, 8))
    {w0 w : World} (v : Value) (k : Nat) (f : Nat → Int) (hs : a.eval s = v) (hown : OwnI w0 e w v k f)
    (g : Nat) (r : Int) (hx : a.eval x = .slice (some ⟨g, 0, none⟩) 1 1) (hg : w.cell? ⟨g, 0, none⟩ = some (.int .i64 r)) (hf : f k = r) (hk : k < 1000000000)
    (h : ∀ v' w', OwnI w0 e w' v' (k + 1) f → w.grownBy w' v.ownBlock → K (a.put o.dst v') w') : o.wp P a w K Q := by
  obtain ⟨i0, hi, hz0, hz1, hz2⟩ := info_int hinfo
  subst hf
  refine wp_append_own w s x t ho w0.heap.size e i0 (.int .i64 0) 1 8 ht hi hz0 hz1 hz2 rfl (by decide) v k (ints k f) hs hown.1 ⟨g, 0, none⟩ 1 1 [.int .i64 (f k)] hx rfl ?_ ?_ ?_ ?_ hown.2.size ?_
  · intro j u hu
    cases j with
    | zero => simp at hu; subst hu; exact hg
    | succ j => simp at hu
  · simp [Value.oneCell']
  · unfold maxLen; omega
  · omega
  · intro v' w' h1 h2 _
    rw [← ints_succ] at h1
    exact h v' w' ⟨h1, hown.2.grown h2 fun k hk => (hown.1.lt k hk).1⟩ h2

theorem wpList_app_int {P : Program} {ops : Array Oper} {rest : List Oper} {o : Oper} {a : Act} {Q : Exit → Act → World → Prop} (hgd : o.guard = none) (s x : Operand) (t e : TypeId)
    (ho : o.op = .call { callee := .builtin .append, args := #[s, x], argTypes := #[t, t] })
    (ht : P.underlying t = some (.slice e)) (hinfo : (P.info? e).map (fun i => (i.zero, i.size, i.bytes)) = some (some (.int .i64 0), 1, 8))
    {w0 w : World} (v : Value) (k : Nat) (f : Nat → Int) (hs : a.eval s = v) (hown : OwnI w0 e w v k f)
    (g : Nat) (r : Int) (hx : a.eval x = .slice (some ⟨g, 0, none⟩) 1 1) (hg : w.cell? ⟨g, 0, none⟩ = some (.int .i64 r)) (hf : f k = r) (hk : k < 1000000000)
    (h : ∀ v' w', OwnI w0 e w' v' (k + 1) f → w.grownBy w' v.ownBlock → wpList P ops Q rest (a.put o.dst v') w') : wpList P ops Q (o :: rest) a w :=
  wpList_plain hgd fun _ hK => wp_app_int s x t e ho ht hinfo v k f hs hown g r hx hg hf hk fun v' w' h1 h2 => hK _ _ (h v' w' h1 h2)

/-- The same at a step of a region that draws its order. -/
theorem step_app_int {P : Program} {ops : Array Oper} {o : Oper} {a : Act} {K : Act → World → Prop} {Q : Exit → Act → World → Prop} {E : Prop} (hgd : o.guard = none) (s x : Operand) (t e : TypeId)
    (ho : o.op = .call { callee := .builtin .append, args := #[s, x], argTypes := #[t, t] })
    (ht : P.underlying t = some (.slice e)) (hinfo : (P.info? e).map (fun i => (i.zero, i.size, i.bytes)) = some (some (.int .i64 0), 1, 8))
    {w0 w : World} (v : Value) (k : Nat) (f : Nat → Int) (hs : a.eval s = v) (hown : OwnI w0 e w v k f)
    (g : Nat) (r : Int) (hx : a.eval x = .slice (some ⟨g, 0, none⟩) 1 1) (hg : w.cell? ⟨g, 0, none⟩ = some (.int .i64 r)) (hf : f k = r) (hk : k < 1000000000)
    (h : ∀ v' w', OwnI w0 e w' v' (k + 1) f → w.grownBy w' v.ownBlock → K (a.put o.dst v') w') :
    if Region.wanted o (yielded ops a.tmps) = true then Oper.wp P o a w K Q else E := by
  have hw : Region.wanted o (yielded ops a.tmps) = true := by simp [Region.wanted, hgd]
  rw [if_pos hw]
  exact wp_app_int s x t e ho ht hinfo v k f hs hown g r hx hg hf hk h

theorem OwnI.drew {w0 w : World} {e : TypeId} {v : Value} {k : Nat} {f : Nat → Int} (h : OwnI w0 e w v k f) : OwnI w0 e w.drew v k f := h.gr ((Gr.refl w).drew)
theorem cell_new1d (w : World) (v : Value) (e : TypeId) : (w.alloc (.cells #[v] e)).drew.cell? ⟨w.heap.size, 0, none⟩ = some v := cell_new1 w v e

/-- x / y as a region that draws writes it. -/
theorem wrap_tdiv {x y : Int} (h0 : 0 ≤ x) (h1 : x ≤ 9223372036854775807) (hy : 0 < y) : wrap64 (x.tdiv y) = x / y := by
  rw [Int.tdiv_eq_ediv_of_nonneg h0]
  have a := Int.ediv_nonneg h0 (Int.le_of_lt hy)
  have b := Int.ediv_le_self y h0
  exact IntWalk.wrap64_in _ (by omega)

/-- What a walk is told of a slice of ints that came in. -/
def IsRow (w : World) (a : Option Addr) (len cap : Nat) (zs : List Int) : Prop :=
  (a = none ∧ len = 0 ∧ cap = 0 ∧ zs = []) ∨
  ∃ x, a = some x ∧ len ≤ cap ∧ cap ≤ maxLen ∧ zs.length = cap ∧ (∀ i, i < zs.length → w.cell? (x.add i) = some (.int .i64 (zs.getD i 0))) ∧ ∀ n ∈ zs, (Lit.int .i64 n).wf = true

theorem add_flat {x : Addr} (h : x.spot = none) (i : Nat) : x.add i = ⟨x.block, x.off + i, none⟩ := by
  obtain ⟨b, o, s⟩ := x
  simp only at h
  subst h
  unfold Addr.add
  split
  · subst_vars; simp
  · rfl

theorem IsRow.rd {w : World} {a : Option Addr} {len cap : Nat} {zs : List Int} (h : IsRow w a len cap zs) :
    len ≤ 9223372036854775807 ∧ RdI w a len (fun i => zs.getD i 0) := by
  rcases h with ⟨rfl, rfl, rfl, rfl⟩ | ⟨x, rfl, hl, hm, hz, hc, _⟩
  · exact ⟨by omega, .inl rfl⟩
  · unfold maxLen at hm
    refine ⟨by omega, ?_⟩
    by_cases h0 : len = 0
    · exact .inl h0
    · have hs : x.spot = none := by
        have := World.cell?_spot (hc 0 (by omega))
        simpa [Addr.add] using this
      obtain ⟨b, o, s⟩ := x
      simp only at hs
      subst hs
      exact .inr ⟨b, o, rfl, fun i hi => by rw [← hc i (by omega), add_flat rfl]⟩

end Go.Firn

namespace Go.Firn
open Go.RowKit Go.Deep

/-- The slice at a, of n structs of two ints, reads as (f 0, g 0), (f 1, g 1), .. -/
def RdM (w : World) (a : Option Addr) (n : Nat) (f g : Nat → Int) : Prop :=
  n = 0 ∨ ∃ b o, a = some ⟨b, o, none⟩ ∧ ∀ i, i < n → w.cell? ⟨b, o + i * 2, none⟩ = some (.int .i64 (f i)) ∧ w.cell? ⟨b, o + i * 2 + 1, none⟩ = some (.int .i64 (g i))

theorem RdM.gr {w w' : World} {a : Option Addr} {n : Nat} {f g : Nat → Int} (h : RdM w a n f g) (k : Gr w w') : RdM w' a n f g := by
  rcases h with h | ⟨b, o, ha, hc⟩
  · exact .inl h
  · exact .inr ⟨b, o, ha, fun i hi => ⟨k.cell (hc i hi).1, k.cell (hc i hi).2⟩⟩
theorem RdM.congr {w : World} {a : Option Addr} {n : Nat} {f g f' g' : Nat → Int} (h : RdM w a n f g) (e : ∀ i, i < n → f i = f' i ∧ g i = g' i) : RdM w a n f' g' := by
  rcases h with h | ⟨b, o, ha, hc⟩
  · exact .inl h
  · exact .inr ⟨b, o, ha, fun i hi => by rw [(hc i hi).1, (hc i hi).2, (e i hi).1, (e i hi).2]; exact ⟨rfl, rfl⟩⟩
theorem RdM.nil (w : World) (a : Option Addr) (f g : Nat → Int) : RdM w a 0 f g := .inl rfl
theorem RdM.at {w : World} {a : Option Addr} {n : Nat} {f g : Nat → Int} (h : RdM w a n f g) {k : Nat} (hk : k < n) :
    ∃ b o, a = some ⟨b, o, none⟩ ∧ ∀ i, i < n → w.cell? ⟨b, o + i * 2, none⟩ = some (.int .i64 (f i)) ∧ w.cell? ⟨b, o + i * 2 + 1, none⟩ = some (.int .i64 (g i)) := by
  rcases h with h | h
  · omega
  · exact h

section
variable {H : Type} {enc : TypeId × Value → H} {P : Program} {w : World} {base : Nat} {spare : Nat → Bool} {held : Bool}

/-- Opening an argument that is a slice of structs of two ints. -/
theorem RdM.of_trod {t e E : TypeId} {f0 f1 : Field} {fuel : Nat} {a : Option Addr} {len cap : Nat} {x : DataW H × List MemPlace} (ht : P.underlying t = some (.slice e)) (he : P.underlying e = some (.struct #[f0, f1]))
    (ce : P.cellsOf e = 2) (h0 : f0.offset = 0 ∧ f0.type = E) (h1 : f1.offset = 1 ∧ f1.type = E) (cE : P.cellsOf E = 1) (hE : P.underlying E = some (.int .i64))
    (h : DataW.trod enc P w base spare held fuel t [.slice a len cap] = some x) :
    ∃ f g : Nat → Int, len ≤ 9223372036854775807 ∧ (∀ i, i < len → (Lit.int .i64 (f i)).wf = true ∧ (Lit.int .i64 (g i)).wf = true) ∧ RdM w a len f g := by
  obtain ⟨o0, t0⟩ := h0
  obtain ⟨o1, t1⟩ := h1
  rcases open_slice_pairs ht he ce o0 o1 (by rw [t0]; exact cE) (by rw [t1]; exact cE) h with ⟨hcs, _⟩ | ⟨ad, l, c, m, n, V0, V1, D0, D1, P0, P1, hcs, _, hl, hm, hmm, _, hx⟩
  · simp only [List.cons.injEq, and_true, Value.slice.injEq] at hcs
    obtain ⟨rfl, rfl, rfl⟩ := hcs
    exact ⟨fun _ => 0, fun _ => 0, by omega, fun i hi => by omega, .inl rfl⟩
  · simp only [List.cons.injEq, and_true, Value.slice.injEq] at hcs
    obtain ⟨rfl, rfl, rfl⟩ := hcs
    have hlm : len ≤ m := by rw [hmm]; split <;> omega
    have each : ∀ i, i < m → (V0 i = .int .i64 (intOf (V0 i)) ∧ (Lit.int .i64 (intOf (V0 i))).wf = true) ∧ (V1 i = .int .i64 (intOf (V1 i)) ∧ (Lit.int .i64 (intOf (V1 i))).wf = true) := by
      intro i hi
      obtain ⟨_, _, h2, h3⟩ := hx i hi
      rw [t0] at h2
      rw [t1] at h3
      obtain ⟨p, hp, _, wp⟩ := DataW.trod_int hE h2
      obtain ⟨q, hq, _, wq⟩ := DataW.trod_int hE h3
      simp only [List.cons.injEq, and_true] at hp hq
      rw [hp, hq]
      exact ⟨⟨rfl, wp⟩, rfl, wq⟩
    refine ⟨fun i => intOf (V0 i), fun i => intOf (V1 i), ?_, fun i hi => ⟨(each i (by omega)).1.2, (each i (by omega)).2.2⟩, ?_⟩
    · unfold maxLen at hm; omega
    by_cases hz : len = 0
    · exact .inl hz
    right
    have hs : ad.spot = none := by
      have := World.cell?_spot (hx 0 (by omega)).1
      simpa [Addr.add] using this
    refine ⟨ad.block, ad.off, by rw [← hs], fun i hi => ?_⟩
    obtain ⟨g0, g1, _, _⟩ := hx i (by omega)
    rw [add_flat hs] at g0 g1
    exact ⟨by rw [g0, ← (each i (by omega)).1.1], by rw [← Nat.add_assoc] at g1; rw [g1, ← (each i (by omega)).2.1]⟩

/-- Opening an argument that is a struct of two ints. -/
theorem open_pair {r : Reach} {b0 : Nat} {t E : TypeId} {f0 f1 : Field} {v : Value} {d : DataW H} {p : List MemPlace} (hs : P.underlying t = some (.struct #[f0, f1])) (hone : oneCellFields P #[f0, f1] = true) (hC : P.cellsOf t = 2)
    (h0 : f0.type = E) (h1 : f1.type = E) (hE : P.underlying E = some (.int .i64))
    (hv : Value.okWide P w r b0 t v) (h : DataW.Trod enc P w base spare held t v d p) :
    ∃ x y : Int, v = .agg #[.int .i64 x, .int .i64 y] ∧ (Lit.int .i64 x).wf = true ∧ (Lit.int .i64 y).wf = true := by
  obtain ⟨c0, c1, y0, y1, n, rfl, _, _, g0, g1⟩ := Joins.open_agg2 hs hone hC hv h
  rw [h0] at g0
  rw [h1] at g1
  obtain ⟨p, hp, _, wp⟩ := DataW.trod_int hE g0
  obtain ⟨q, hq, _, wq⟩ := DataW.trod_int hE g1
  simp only [List.cons.injEq, and_true] at hp hq
  subst hp hq
  exact ⟨p, q, rfl, wp, wq⟩
end

/-- A block of the call's own, behind what has been done since: its cells, and that they may be written. -/
theorem Gr.fresh {w w' : World} {cs : Array Value} {e : TypeId} (h : Gr (w.alloc (.cells cs e)) w') {j : Nat} {v : Value} (hv : cs[j]? = some v) : w'.cell? ⟨w.heap.size, j, none⟩ = some v ∧ w'.frozen? ⟨w.heap.size, j, none⟩ = false := by
  have hn := heap_alloc_new w (.cells cs e)
  refine ⟨h.cell (by rw [cell_of_row _ _ j cs e (0, 0) hn]; exact hv), ?_⟩
  rw [Below.frozen h (by simp)]
  unfold World.frozen?
  rw [hn]
  simp
theorem Gr.fresh' {w w' : World} {cs : Array Value} {e : TypeId} (h : Gr (w.alloc (.cells cs e)) w') {b j : Nat} {v : Value} (hb : w.heap.size = b) (hv : cs[j]? = some v) : w'.cell? ⟨b, j, none⟩ = some v ∧ w'.frozen? ⟨b, j, none⟩ = false := by
  subst hb; exact h.fresh hv
theorem Gr.setAt {a w : World} (h : Gr a w) {b j : Nat} (hb : a.heap.size ≤ b) (u : Value) : Gr a (w.setCell ⟨b, j, none⟩ u) := h.setCell (p := ⟨b, j, none⟩) hb u
theorem Gr.freshSize {w w' : World} {o : Obj} (h : Gr (w.alloc o) w') : w.heap.size < w'.heap.size := by
  have := h.size
  simp at this
  omega

/-- A struct of two ints in a block of the call's own. -/
def Box2 (w : World) (b : Nat) (x y : Int) : Prop := w.cell? ⟨b, 0, none⟩ = some (.int .i64 x) ∧ w.cell? ⟨b, 1, none⟩ = some (.int .i64 y) ∧ w.frozen? ⟨b, 0, none⟩ = false ∧ w.frozen? ⟨b, 1, none⟩ = false
theorem Box2.put {w : World} {b : Nat} {x y x' y' : Int} (h : Box2 w b x y) : Box2 ((w.setCell ⟨b, 0, none⟩ (.int .i64 x')).setCell ⟨b, 1, none⟩ (.int .i64 y')) b x' y' := by
  obtain ⟨h0, h1, h2, h3⟩ := h
  have e1 : (w.setCell ⟨b, 0, none⟩ (.int .i64 x')).cell? ⟨b, 1, none⟩ = some (.int .i64 y) := by rw [World.cell?_setCell_other _ _ _ _ (by simp)]; exact h1
  refine ⟨?_, World.cell?_setCell_same _ _ _ e1, by simpa using h2, by simpa using h3⟩
  rw [World.cell?_setCell_other _ _ _ _ (by simp)]
  exact World.cell?_setCell_same _ _ _ h0
theorem Box2.far {w : World} {b b' : Nat} {x y : Int} (h : Box2 w b x y) (hne : b' ≠ b) (u v : Value) : Box2 ((w.setCell ⟨b', 0, none⟩ u).setCell ⟨b', 1, none⟩ v) b x y := by
  obtain ⟨h0, h1, h2, h3⟩ := h
  refine ⟨?_, ?_, by simpa using h2, by simpa using h3⟩
  · rw [World.cell?_setCell_other _ _ _ _ (fun e => hne (congrArg Addr.block e)), World.cell?_setCell_other _ _ _ _ (fun e => hne (congrArg Addr.block e))]; exact h0
  · rw [World.cell?_setCell_other _ _ _ _ (fun e => hne (congrArg Addr.block e)), World.cell?_setCell_other _ _ _ _ (fun e => hne (congrArg Addr.block e))]; exact h1
theorem Box2.drew {w : World} {b : Nat} {x y : Int} (h : Box2 w b x y) : Box2 w.drew b x y := h
theorem Box2.gr {w w' : World} {b : Nat} {x y : Int} (h : Box2 w b x y) (g : Gr w w') : Box2 w' b x y := by
  have hb := World.block_lt_of_cell? w _ h.1
  exact ⟨g.cell h.1, g.cell h.2.1, by rw [Below.frozen g hb]; exact h.2.2.1, by rw [Below.frozen g (p := ⟨b, 1, none⟩) hb]; exact h.2.2.2⟩
theorem Box2.new {w : World} {b e : Nat} {x y : Int} (hb : w.heap.size = b) : Box2 (w.alloc (.cells #[.int .i64 x, .int .i64 y] e)) b x y := by
  have g := Gr.refl (w.alloc (.cells #[.int .i64 x, .int .i64 y] e))
  obtain ⟨a1, a2⟩ := g.fresh' (j := 0) hb rfl
  obtain ⟨a3, a4⟩ := g.fresh' (j := 1) hb rfl
  exact ⟨a1, a3, a2, a4⟩

theorem wf64 {x : Int} (h : (Lit.int .i64 x).wf = true) : -9223372036854775808 ≤ x ∧ x ≤ 9223372036854775807 := by
  simp [Lit.wf, IntKind.min, IntKind.max, IntKind.signed, IntKind.bits] at h
  omega

end Go.Firn

namespace Go.Firn
open Go.RowKit

/-- The cells of pairs. -/
def pm (ms : List (Int × Int)) : List Value := ms.flatMap fun m => [.int .i64 m.1, .int .i64 m.2]
theorem pm_length (ms : List (Int × Int)) : (pm ms).length = ms.length * 2 := by
  induction ms with
  | nil => rfl
  | cons m ms ih =>
    have : pm (m :: ms) = [.int .i64 m.1, .int .i64 m.2] ++ pm ms := rfl
    rw [this, List.length_append, ih]; simp; omega
theorem pm_append (a b : List (Int × Int)) : pm (a ++ b) = pm a ++ pm b := by simp [pm]
theorem pm_at : ∀ (ms : List (Int × Int)) (i : Nat), i < ms.length → (pm ms)[i * 2]? = some (.int .i64 (ms.getD i (0, 0)).1) ∧ (pm ms)[i * 2 + 1]? = some (.int .i64 (ms.getD i (0, 0)).2) := by
  intro ms
  induction ms with
  | nil => intro i h; simp at h
  | cons m ms ih =>
    intro i h
    have e : pm (m :: ms) = .int .i64 m.1 :: .int .i64 m.2 :: pm ms := rfl
    cases i with
    | zero => rw [e]; exact ⟨rfl, rfl⟩
    | succ i =>
      have := ih i (by simpa using h)
      rw [e, show (i + 1) * 2 = i * 2 + 1 + 1 by omega]
      simpa using this

/-- A row of the call's own that holds these pairs. -/
def OwnM (w0 : World) (e : TypeId) (w : World) (v : Value) (ms : List (Int × Int)) : Prop := w.ownsRow w0.heap.size e 2 v ms.length (pm ms) ∧ Gr w0 w
theorem OwnM.nil' {w0 w : World} (g : Gr w0 w) (e : TypeId) : OwnM w0 e w (.slice none 0 0) [] := ⟨World.ownsRow_nil w _ _ _, g⟩
theorem OwnM.nil (w : World) (e : TypeId) : OwnM w e w (.slice none 0 0) [] := OwnM.nil' (Gr.refl w) e
theorem OwnM.gr {w0 w w' : World} {e : TypeId} {v : Value} {ms : List (Int × Int)} (h : OwnM w0 e w v ms) (g : Gr w w') : OwnM w0 e w' v ms :=
  ⟨h.1.kept (row := none) ⟨g.os, g.tape, g.output, Gr.size g, fun k hk _ => Below.block g k hk⟩ (by cases v.ownBlock <;> simp), h.2.trans g⟩
theorem OwnM.alloc {w0 w : World} {e : TypeId} {v : Value} {ms : List (Int × Int)} (h : OwnM w0 e w v ms) (o : Obj) : OwnM w0 e (w.alloc o) v ms := h.gr ((Gr.refl w).alloc o)
theorem OwnM.drew {w0 w : World} {e : TypeId} {v : Value} {ms : List (Int × Int)} (h : OwnM w0 e w v ms) : OwnM w0 e w.drew v ms := h.gr ((Gr.refl w).drew)

/-- Pairs, read by index. -/
def px (ms : List (Int × Int)) (i : Nat) : Int := (ms.getD i (0, 0)).1
def py (ms : List (Int × Int)) (i : Nat) : Int := (ms.getD i (0, 0)).2

theorem OwnM.rd {w0 w : World} {e : TypeId} {v : Value} {ms : List (Int × Int)} (h : OwnM w0 e w v ms) : ∃ a c, v = .slice a ms.length c ∧ ms.length ≤ c ∧ c ≤ maxLen ∧ RdM w a ms.length (px ms) (py ms) := by
  have h0 := h.1
  obtain ⟨hl, hv⟩ := h.1
  rcases hv with ⟨rfl, hz⟩ | ⟨g, cap, cur, rfl, hb, hg, hnc, hcm, hcs, htake⟩
  · rw [hz]; exact ⟨none, 0, rfl, Nat.le_refl _, by unfold maxLen; omega, .inl rfl⟩
  · refine ⟨_, _, rfl, hnc, hcm, .inr ⟨g, 0, rfl, fun i hi => ?_⟩⟩
    obtain ⟨p0, p1⟩ := pm_at ms i hi
    have c0 := h0.cells (g := g) rfl _ _ p0
    have c1 := h0.cells (g := g) rfl _ _ p1
    rw [add_flat rfl] at c0 c1
    exact ⟨c0, by rw [Nat.add_assoc]; exact c1⟩

/-- A slice of pairs and an error. -/
def RetMs (ms : List (Int × Int)) (err : Int) (w : World) (e : Ending) (w' : World) : Prop :=
  ∃ a c, e = .returned (.tuple #[.slice a ms.length c, .int .i64 err]) ∧ ms.length ≤ c ∧ c ≤ maxLen ∧ RdM w' a ms.length (px ms) (py ms) ∧ Gr w w'
/-- A slice of pairs. -/
def RetM1 (ms : List (Int × Int)) (w : World) (e : Ending) (w' : World) : Prop :=
  ∃ a c, e = .returned (.slice a ms.length c) ∧ ms.length ≤ c ∧ c ≤ maxLen ∧ RdM w' a ms.length (px ms) (py ms) ∧ Gr w w'
theorem OwnM.ret {w0 w : World} {e : TypeId} {v : Value} {ms : List (Int × Int)} (h : OwnM w0 e w v ms) (err : Int) : RetMs ms err w0 (.returned (.tuple #[v, .int .i64 err])) w := by
  obtain ⟨a, c, rfl, h1, h2, h3⟩ := h.rd
  exact ⟨a, c, rfl, h1, h2, h3, h.2⟩
theorem OwnM.ret1 {w0 w : World} {e : TypeId} {v : Value} {ms : List (Int × Int)} (h : OwnM w0 e w v ms) : RetM1 ms w0 (.returned v) w := by
  obtain ⟨a, c, rfl, h1, h2, h3⟩ := h.rd
  exact ⟨a, c, rfl, h1, h2, h3, h.2⟩

theorem info_pair {P : Program} {e : TypeId} (h : (P.info? e).map (fun i => (i.zero, i.size, i.bytes)) = some (some (.agg #[.int .i64 0, .int .i64 0]), 2, 16)) :
    ∃ i, P.info? e = some i ∧ i.zero = some (.agg #[.int .i64 0, .int .i64 0]) ∧ i.size = 2 ∧ i.bytes = 16 := by
  cases hi : P.info? e with
  | none => rw [hi] at h; cases h
  | some i => rw [hi] at h; simp at h; exact ⟨i, rfl, h.1, h.2.1, h.2.2⟩

/-- append(v, m): the row with one pair more. -/
theorem wp_app_pair {P : Program} {o : Oper} {a : Act} {K : Act → World → Prop} {Q : Exit → Act → World → Prop} (s x : Operand) (t e : TypeId)
    (ho : o.op = .call { callee := .builtin .append, args := #[s, x], argTypes := #[t, t] })
    (ht : P.underlying t = some (.slice e)) (hinfo : (P.info? e).map (fun i => (i.zero, i.size, i.bytes)) = some (some (.agg #[.int .i64 0, .int .i64 0]), 2, 16))
    {w0 w : World} (v : Value) (ms : List (Int × Int)) (hs : a.eval s = v) (hown : OwnM w0 e w v ms)
    (g : Nat) (p q : Int) (hx : a.eval x = .slice (some ⟨g, 0, none⟩) 1 1) (hg : w.cell? ⟨g, 0, none⟩ = some (.int .i64 p) ∧ w.cell? ⟨g, 1, none⟩ = some (.int .i64 q)) (hk : ms.length < 1000000000)
    (h : ∀ v' w', OwnM w0 e w' v' (ms ++ [(p, q)]) → w.grownBy w' v.ownBlock → K (a.put o.dst v') w') : o.wp P a w K Q := by
  obtain ⟨i0, hi, hz0, hz1, hz2⟩ := info_pair hinfo
  refine wp_append_own w s x t ho w0.heap.size e i0 _ 2 16 ht hi hz0 hz1 hz2 rfl (by decide) v ms.length (pm ms) hs hown.1 ⟨g, 0, none⟩ 1 1 [.int .i64 p, .int .i64 q] hx rfl ?_ ?_ ?_ ?_ hown.2.size ?_
  · intro j u hu
    rw [add_flat rfl]
    match j, hu with
    | 0, hu => simp at hu; subst hu; exact hg.1
    | 1, hu => simp at hu; subst hu; exact hg.2
    | j + 2, hu => simp at hu
  · simp [Value.oneCell']
  · unfold maxLen; omega
  · omega
  · intro v' w' h1 h2 _
    have e1 : pm ms ++ [.int .i64 p, .int .i64 q] = pm (ms ++ [(p, q)]) := by rw [pm_append]; rfl
    rw [e1] at h1
    refine h v' w' ⟨?_, hown.2.grown h2 fun k hk => (hown.1.lt k hk).1⟩ h2
    rw [List.length_append]
    exact h1

theorem wpList_app_pair {P : Program} {ops : Array Oper} {rest : List Oper} {o : Oper} {a : Act} {Q : Exit → Act → World → Prop} (hgd : o.guard = none) (s x : Operand) (t e : TypeId)
    (ho : o.op = .call { callee := .builtin .append, args := #[s, x], argTypes := #[t, t] })
    (ht : P.underlying t = some (.slice e)) (hinfo : (P.info? e).map (fun i => (i.zero, i.size, i.bytes)) = some (some (.agg #[.int .i64 0, .int .i64 0]), 2, 16))
    {w0 w : World} (v : Value) (ms : List (Int × Int)) (hs : a.eval s = v) (hown : OwnM w0 e w v ms)
    (g : Nat) (p q : Int) (hx : a.eval x = .slice (some ⟨g, 0, none⟩) 1 1) (hg : w.cell? ⟨g, 0, none⟩ = some (.int .i64 p) ∧ w.cell? ⟨g, 1, none⟩ = some (.int .i64 q)) (hk : ms.length < 1000000000)
    (h : ∀ v' w', OwnM w0 e w' v' (ms ++ [(p, q)]) → w.grownBy w' v.ownBlock → wpList P ops Q rest (a.put o.dst v') w') : wpList P ops Q (o :: rest) a w :=
  wpList_plain hgd fun _ hK => wp_app_pair s x t e ho ht hinfo v ms hs hown g p q hx hg hk fun v' w' h1 h2 => hK _ _ (h v' w' h1 h2)

theorem step_app_pair {P : Program} {ops : Array Oper} {o : Oper} {a : Act} {K : Act → World → Prop} {Q : Exit → Act → World → Prop} {E : Prop} (hgd : o.guard = none) (s x : Operand) (t e : TypeId)
    (ho : o.op = .call { callee := .builtin .append, args := #[s, x], argTypes := #[t, t] })
    (ht : P.underlying t = some (.slice e)) (hinfo : (P.info? e).map (fun i => (i.zero, i.size, i.bytes)) = some (some (.agg #[.int .i64 0, .int .i64 0]), 2, 16))
    {w0 w : World} (v : Value) (ms : List (Int × Int)) (hs : a.eval s = v) (hown : OwnM w0 e w v ms)
    (g : Nat) (p q : Int) (hx : a.eval x = .slice (some ⟨g, 0, none⟩) 1 1) (hg : w.cell? ⟨g, 0, none⟩ = some (.int .i64 p) ∧ w.cell? ⟨g, 1, none⟩ = some (.int .i64 q)) (hk : ms.length < 1000000000)
    (h : ∀ v' w', OwnM w0 e w' v' (ms ++ [(p, q)]) → w.grownBy w' v.ownBlock → K (a.put o.dst v') w') :
    if Region.wanted o (yielded ops a.tmps) = true then Oper.wp P o a w K Q else E := by
  have hw : Region.wanted o (yielded ops a.tmps) = true := by simp [Region.wanted, hgd]
  rw [if_pos hw]
  exact wp_app_pair s x t e ho ht hinfo v ms hs hown g p q hx hg hk h

theorem cell_new2 (w : World) (p q : Int) (e : TypeId) : (w.alloc (.cells #[.int .i64 p, .int .i64 q] e)).cell? ⟨w.heap.size, 0, none⟩ = some (.int .i64 p) ∧ (w.alloc (.cells #[.int .i64 p, .int .i64 q] e)).cell? ⟨w.heap.size, 1, none⟩ = some (.int .i64 q) :=
  ⟨(Box2.new rfl).1, (Box2.new rfl).2.1⟩
theorem cell_new2' (w : World) (p q : Int) (e : TypeId) {b : Nat} (hb : w.heap.size = b) : (w.alloc (.cells #[.int .i64 p, .int .i64 q] e)).cell? ⟨b, 0, none⟩ = some (.int .i64 p) ∧ (w.alloc (.cells #[.int .i64 p, .int .i64 q] e)).cell? ⟨b, 1, none⟩ = some (.int .i64 q) :=
  ⟨(Box2.new hb).1, (Box2.new hb).2.1⟩

/-- The first k pairs of two index functions. -/
def pairs (k : Nat) (f g : Nat → Int) : List (Int × Int) := (List.range k).map fun i => (f i, g i)
theorem pairs_succ (k : Nat) (f g : Nat → Int) : pairs (k + 1) f g = pairs k f g ++ [(f k, g k)] := by unfold pairs; rw [List.range_succ, List.map_append]; rfl
theorem pairs_length (k : Nat) (f g : Nat → Int) : (pairs k f g).length = k := by simp [pairs]
theorem px_pairs {k i : Nat} (f g : Nat → Int) (h : i < k) : px (pairs k f g) i = f i := by simp [px, pairs, h]
theorem py_pairs {k i : Nat} (f g : Nat → Int) (h : i < k) : py (pairs k f g) i = g i := by simp [py, pairs, h]

/-- A slice of pairs, told by two index functions, and an error. -/
def RetMf (n : Nat) (f g : Nat → Int) (err : Int) (w : World) (e : Ending) (w' : World) : Prop :=
  ∃ a c, e = .returned (.tuple #[.slice a n c, .int .i64 err]) ∧ n ≤ c ∧ c ≤ maxLen ∧ RdM w' a n f g ∧ Gr w w'
theorem RetMs.mf {n : Nat} {f g : Nat → Int} {err : Int} {w w' : World} {e : Ending} (h : RetMs (pairs n f g) err w e w') : RetMf n f g err w e w' := by
  obtain ⟨a, c, rfl, h1, h2, h3, h4⟩ := h
  rw [pairs_length] at h1 h3
  refine ⟨a, c, by rw [pairs_length], h1, h2, h3.congr fun i hi => ⟨px_pairs f g hi, py_pairs f g hi⟩, h4⟩

end Go.Firn

namespace Go.Firn
open Go.RowKit

/-- Of what was there only the block bb was written. -/
def Wr (bb : Nat) (w w' : World) : Prop := w.grownBy w' (some bb)
theorem Wr.refl (bb : Nat) (w : World) : Wr bb w w := World.grownBy.refl w _
theorem Wr.trans {bb : Nat} {a b c : World} (h : Wr bb a b) (k : Wr bb b c) : Wr bb a c := World.grownBy.trans h k
theorem Wr.drewN {bb : Nat} {a b : World} (h : Wr bb a b) (m : Nat) : Wr bb a (b.drewN m) := ⟨h.os, h.tape, h.output, h.size, h.block⟩
theorem Wr.drew {bb : Nat} {a b : World} (h : Wr bb a b) : Wr bb a b.drew := ⟨h.os, h.tape, h.output, h.size, h.block⟩
theorem Wr.set {bb : Nat} {a b : World} (h : Wr bb a b) (j : Nat) (u : Value) : Wr bb a (b.setCell ⟨bb, j, none⟩ u) :=
  h.trans ⟨rfl, rfl, rfl, by simp, fun k _ hne => Below.heap_setCell _ _ _ _ (fun e => hne (congrArg some e))⟩
theorem Wr.cell {bb : Nat} {a b : World} (h : Wr bb a b) {p : Addr} {v : Value} (hp : a.cell? p = some v) (hne : p.block ≠ bb) : b.cell? p = some v := World.grownBy.cell h hp (fun e => hne (Option.some.inj e))
theorem Wr.frozen {bb : Nat} {a b : World} (h : Wr bb a b) {p : Addr} {v : Value} (hp : a.cell? p = some v) (hne : p.block ≠ bb) : b.frozen? p = a.frozen? p :=
  World.frozen?_of_block (h.block _ (World.block_lt_of_cell? a _ hp) (fun e => hne (Option.some.inj e)))
theorem Wr.gr {bb : Nat} {w a b : World} (h : Wr bb a b) (g : Gr w a) (hb : w.heap.size ≤ bb) : Gr w b := g.grown h fun k hk => by cases hk; exact hb
theorem Box2.far1 {w : World} {b b' j : Nat} {x y : Int} (h : Box2 w b x y) (hne : b' ≠ b) (u : Value) : Box2 (w.setCell ⟨b', j, none⟩ u) b x y := by
  obtain ⟨h0, h1, h2, h3⟩ := h
  refine ⟨?_, ?_, by simpa using h2, by simpa using h3⟩
  · rw [World.cell?_setCell_other _ _ _ _ (fun e => hne (congrArg Addr.block e))]; exact h0
  · rw [World.cell?_setCell_other _ _ _ _ (fun e => hne (congrArg Addr.block e))]; exact h1

/-- A struct of three ints in a block of the call's own. -/
def Box3 (w : World) (b : Nat) (x y z : Int) : Prop := w.cell? ⟨b, 0, none⟩ = some (.int .i64 x) ∧ w.cell? ⟨b, 1, none⟩ = some (.int .i64 y) ∧ w.cell? ⟨b, 2, none⟩ = some (.int .i64 z) ∧ w.frozen? ⟨b, 0, none⟩ = false ∧ w.frozen? ⟨b, 1, none⟩ = false ∧ w.frozen? ⟨b, 2, none⟩ = false
theorem Box3.gr {w w' : World} {b : Nat} {x y z : Int} (h : Box3 w b x y z) (g : Gr w w') : Box3 w' b x y z := by
  obtain ⟨h1, h2, h3, h4, h5, h6⟩ := h
  have f := fun (p : Addr) (hp : p.block < w.heap.size) => Below.frozen g hp
  exact ⟨g.cell h1, g.cell h2, g.cell h3, (f _ (World.block_lt_of_cell? w _ h1)).trans h4, (f _ (World.block_lt_of_cell? w _ h2)).trans h5, (f _ (World.block_lt_of_cell? w _ h3)).trans h6⟩
theorem Box3.new {w : World} {b e : Nat} {x y z : Int} (hb : w.heap.size = b) : Box3 (w.alloc (.cells #[.int .i64 x, .int .i64 y, .int .i64 z] e)) b x y z := by
  subst hb
  have f := fun j v h => (Gr.refl (w.alloc (.cells #[.int .i64 x, .int .i64 y, .int .i64 z] e))).fresh' (b := w.heap.size) (j := j) (v := v) rfl h
  exact ⟨(f 0 _ rfl).1, (f 1 _ rfl).1, (f 2 _ rfl).1, (f 0 _ rfl).2, (f 1 _ rfl).2, (f 2 _ rfl).2⟩
theorem Box3.far1 {w : World} {b b' j : Nat} {x y z : Int} (h : Box3 w b x y z) (hne : b' ≠ b) (u : Value) : Box3 (w.setCell ⟨b', j, none⟩ u) b x y z := by
  have g := (Wr.refl b' w).set j u
  obtain ⟨h1, h2, h3, h4, h5, h6⟩ := h
  exact ⟨g.cell h1 (Ne.symm hne), g.cell h2 (Ne.symm hne), g.cell h3 (Ne.symm hne), (g.frozen h1 (Ne.symm hne)).trans h4, (g.frozen h2 (Ne.symm hne)).trans h5, (g.frozen h3 (Ne.symm hne)).trans h6⟩

theorem Box3.put {w : World} {b : Nat} {x y z : Int} (h : Box3 w b x y z) (x' y' z' : Int) : Box3 (((w.setCell ⟨b, 0, none⟩ (.int .i64 x')).setCell ⟨b, 1, none⟩ (.int .i64 y')).setCell ⟨b, 2, none⟩ (.int .i64 z')) b x' y' z' := by
  obtain ⟨h1, h2, h3, h4, h5, h6⟩ := h
  refine ⟨?_, ?_, ?_, by simpa using h4, by simpa using h5, by simpa using h6⟩
  · rw [World.cell?_setCell_other _ _ _ _ (by simp), World.cell?_setCell_other _ _ _ _ (by simp)]
    exact World.cell?_setCell_same' _ _ _ (by rw [h1]; rfl)
  · rw [World.cell?_setCell_other _ _ _ _ (by simp)]
    exact World.cell?_setCell_same' _ _ _ (by rw [World.cell?_setCell_other _ _ _ _ (by simp), h2]; rfl)
  · exact World.cell?_setCell_same' _ _ _ (by rw [World.cell?_setCell_other _ _ _ _ (by simp), World.cell?_setCell_other _ _ _ _ (by simp), h3]; rfl)
/-- What was there reads as before: two rules for a walk. -/
theorem bcell {W w1 : World} (hb : Gr W w1) : (∀ b o, b < W.heap.size → w1.cell? ⟨b, o, none⟩ = W.cell? ⟨b, o, none⟩) ∧ (∀ b o, b < W.heap.size → w1.frozen? ⟨b, o, none⟩ = W.frozen? ⟨b, o, none⟩) :=
  ⟨fun b o h => Below.cell hb (p := ⟨b, o, none⟩) h, fun b o h => Below.frozen hb (p := ⟨b, o, none⟩) h⟩
theorem cell_far {w : World} {b b' j k : Nat} {v : Value} (h : w.cell? ⟨b, j, none⟩ = some v) (hne : b' ≠ b) (u : Value) : (w.setCell ⟨b', k, none⟩ u).cell? ⟨b, j, none⟩ = some v := by
  rw [World.cell?_setCell_other _ _ _ _ (fun e => hne (congrArg Addr.block e))]; exact h

/-- Of what was there only blocks of X were written. -/
structure Wx (X : Nat → Prop) (w w' : World) : Prop where
  os : w'.os = w.os
  tape : w'.tape = w.tape
  output : w'.output = w.output
  size : w.heap.size ≤ w'.heap.size
  block : ∀ k, k < w.heap.size → ¬X k → w'.heap[k]? = w.heap[k]?
theorem Wx.refl (X : Nat → Prop) (w : World) : Wx X w w := ⟨rfl, rfl, rfl, Nat.le_refl _, fun _ _ _ => rfl⟩
theorem Wx.trans {X : Nat → Prop} {a b c : World} (h : Wx X a b) (k : Wx X b c) : Wx X a c :=
  ⟨k.os.trans h.os, k.tape.trans h.tape, k.output.trans h.output, Nat.le_trans h.size k.size, fun i hi hx => (k.block i (Nat.lt_of_lt_of_le hi h.size) hx).trans (h.block i hi hx)⟩
theorem Wx.of_gr {X : Nat → Prop} {a b : World} (h : Gr a b) : Wx X a b := ⟨h.os, h.tape, h.output, h.size, fun k hk _ => Below.block h k hk⟩
theorem Wx.drew {X : Nat → Prop} {a b : World} (h : Wx X a b) : Wx X a b.drew := ⟨h.os, h.tape, h.output, h.size, h.block⟩
theorem Wx.set {X : Nat → Prop} {a b : World} (h : Wx X a b) {bb : Nat} (hb : X bb) (j : Nat) (u : Value) : Wx X a (b.setCell ⟨bb, j, none⟩ u) :=
  h.trans ⟨rfl, rfl, rfl, by simp, fun k _ hne => Below.heap_setCell _ _ _ _ (fun e => by simp only at e; subst e; exact hne hb)⟩
theorem Wx.cell {X : Nat → Prop} {a b : World} (h : Wx X a b) {p : Addr} {v : Value} (hp : a.cell? p = some v) (hne : ¬X p.block) : b.cell? p = some v := by
  rw [World.cell?_of_block (w := a) (h.block p.block (World.block_lt_of_cell? a p hp) hne)]; exact hp
theorem Wx.frozen {X : Nat → Prop} {a b : World} (h : Wx X a b) {p : Addr} {v : Value} (hp : a.cell? p = some v) (hne : ¬X p.block) : b.frozen? p = a.frozen? p :=
  World.frozen?_of_block (h.block _ (World.block_lt_of_cell? a _ hp) hne)
theorem Wx.gr {X : Nat → Prop} {w a b : World} (h : Wx X a b) (g : Gr w a) (hb : ∀ k, X k → w.heap.size ≤ k) : Gr w b :=
  ⟨h.os.trans g.os, h.tape.trans g.tape, h.output.trans g.output, Nat.le_trans (Gr.size g) h.size, fun k hk => (h.block k (Nat.lt_of_lt_of_le hk (Gr.size g)) (fun e => by have := hb k e; omega)).trans (Below.block g k hk)⟩
theorem Wx.own {X : Nat → Prop} {a b c : World} {row : Option Nat} (h : Wx X a b) (g : b.grownBy c row) (hr : ∀ r, row = some r → a.heap.size ≤ r) : Wx X a c :=
  ⟨g.os.trans h.os, g.tape.trans h.tape, g.output.trans h.output, Nat.le_trans h.size g.size, fun k hk hX => (g.block k (Nat.lt_of_lt_of_le hk h.size) (fun e => by have := hr k e.symm; omega)).trans (h.block k hk hX)⟩

end Go.Firn

namespace Go.Proofs.YtohcnicadbpbbaaGreatDoor

theorem gcd_step (a b : Int) : Int.gcd b (a.tmod b) = Int.gcd a b := by
  show Nat.gcd b.natAbs (a.tmod b).natAbs = Nat.gcd a.natAbs b.natAbs
  rw [Int.natAbs_tmod, Nat.gcd_comm a.natAbs b.natAbs, Nat.gcd_rec b.natAbs a.natAbs, Nat.gcd_comm]
theorem tmod_bd (a : Int) {b : Int} (hb : b ≠ 0) : (a.tmod b).natAbs < b.natAbs := by
  rw [Int.natAbs_tmod]; exact Nat.mod_lt _ (by omega)

/-- The fraction n / d (d above 0) in lowest terms. -/
def rN (n d : Int) : Int := n / (Int.gcd n d : Int)
def rD (n d : Int) : Int := d / (Int.gcd n d : Int)

theorem gcd_pos {d : Int} (n : Int) (hd : 0 < d) : 0 < (Int.gcd n d : Int) := by
  have : Int.gcd n d ≠ 0 := by
    intro h
    have := (Int.gcd_eq_zero_iff.1 h).2
    omega
  omega
theorem rN_mul (n d : Int) : rN n d * (Int.gcd n d : Int) = n := Int.ediv_mul_cancel (Int.gcd_dvd_left n d)
theorem rD_mul (n d : Int) : rD n d * (Int.gcd n d : Int) = d := Int.ediv_mul_cancel (Int.gcd_dvd_right n d)
theorem rD_pos {d : Int} (n : Int) (hd : 0 < d) : 0 < rD n d := by
  have h := rD_mul n d
  have g := gcd_pos n hd
  rcases Int.lt_trichotomy (rD n d) 0 with h1 | h1 | h1
  · have := Int.mul_neg_of_neg_of_pos h1 g; omega
  · rw [h1, Int.zero_mul] at h; omega
  · exact h1
theorem rD_le {d : Int} (n : Int) (hd : 0 < d) : rD n d ≤ d := Int.ediv_le_self _ (by omega)
theorem rN_nonneg {n d : Int} (h : 0 ≤ n) : 0 ≤ rN n d := Int.ediv_nonneg h (Int.natCast_nonneg _)
theorem rN_le {n d : Int} (h : 0 ≤ n) : rN n d ≤ n := Int.ediv_le_self _ h
theorem rN_abs {n d : Int} (hd : 0 < d) : (rN n d).natAbs ≤ n.natAbs := by
  have h := rN_mul n d
  have g := gcd_pos n hd
  have : (rN n d).natAbs * (Int.gcd n d) = n.natAbs := by
    have := congrArg Int.natAbs h
    rwa [Int.natAbs_mul, Int.natAbs_natCast] at this
  have := Nat.le_mul_of_pos_right (rN n d).natAbs (show 0 < Int.gcd n d by omega)
  omega
theorem rN_tdiv (n d : Int) : n.tdiv (Int.gcd n d : Int) = rN n d := Int.tdiv_eq_ediv_of_dvd (Int.gcd_dvd_left n d)
theorem rD_tdiv (n d : Int) : d.tdiv (Int.gcd n d : Int) = rD n d := Int.tdiv_eq_ediv_of_dvd (Int.gcd_dvd_right n d)

/-- The value is the same: (n / d) * d' .. -/
theorem red_mul (n d : Int) : rN n d * d = n * rD n d := by
  have h1 := rN_mul n d
  have h2 := rD_mul n d
  calc rN n d * d = rN n d * (rD n d * (Int.gcd n d : Int)) := by rw [h2]
    _ = rN n d * (Int.gcd n d : Int) * rD n d := by rw [Int.mul_comm (rD n d), Int.mul_assoc]
    _ = n * rD n d := by rw [h1]

theorem red_cop {n d : Int} (hd : 0 < d) : (rN n d).gcd (rD n d) = 1 := Int.gcd_ediv_gcd_ediv_gcd (by have := gcd_pos n hd; omega)

theorem cop_eq {N D N' D' : Int} (h1 : N.gcd D = 1) (h2 : N'.gcd D' = 1) (p1 : 0 < D) (p2 : 0 < D') (h : N * D' = N' * D) : N = N' ∧ D = D' := by
  have c1 : Nat.Coprime D.natAbs N.natAbs := (Nat.gcd_comm _ _).trans h1
  have c2 : Nat.Coprime D'.natAbs N'.natAbs := (Nat.gcd_comm _ _).trans h2
  have e : N.natAbs * D'.natAbs = N'.natAbs * D.natAbs := by rw [← Int.natAbs_mul, ← Int.natAbs_mul, h]
  have d1 : D.natAbs ∣ D'.natAbs := c1.dvd_of_dvd_mul_left (by rw [e]; exact Nat.dvd_mul_left _ _)
  have d2 : D'.natAbs ∣ D.natAbs := c2.dvd_of_dvd_mul_left (by rw [← e]; exact Nat.dvd_mul_left _ _)
  have e2 := Nat.dvd_antisymm d1 d2
  have e3 : D = D' := by omega
  subst e3
  exact ⟨Int.eq_of_mul_eq_mul_right (by omega) h, rfl⟩

/-- Equal fractions have equal lowest terms. -/
theorem red_eq {n d n' d' : Int} (hd : 0 < d) (hd' : 0 < d') (h : n * d' = n' * d) : rN n d = rN n' d' ∧ rD n d = rD n' d' := by
  refine cop_eq (red_cop hd) (red_cop hd') (rD_pos n hd) (rD_pos n' hd') ?_
  have g := gcd_pos n hd
  have g' := gcd_pos n' hd'
  have h3 : rN n d * rD n' d' * ((Int.gcd n d : Int) * (Int.gcd n' d' : Int)) = rN n' d' * rD n d * ((Int.gcd n d : Int) * (Int.gcd n' d' : Int)) := by
    have e1 : rN n d * rD n' d' * ((Int.gcd n d : Int) * (Int.gcd n' d' : Int)) = (rN n d * (Int.gcd n d : Int)) * (rD n' d' * (Int.gcd n' d' : Int)) := by ac_rfl
    have e2 : rN n' d' * rD n d * ((Int.gcd n d : Int) * (Int.gcd n' d' : Int)) = (rN n' d' * (Int.gcd n' d' : Int)) * (rD n d * (Int.gcd n d : Int)) := by ac_rfl
    rw [e1, e2, rN_mul, rN_mul, rD_mul, rD_mul, h]
  exact Int.eq_of_mul_eq_mul_right (Int.ne_of_gt (Int.mul_pos g g')) h3

/-- A whole number. -/
theorem red_whole {k d : Int} (hd : 0 < d) : rN (k * d) d = k ∧ rD (k * d) d = 1 := by
  have h := red_eq (n := k * d) (d := d) (n' := k) (d' := 1) hd (by omega) (by omega)
  have g : Int.gcd k 1 = 1 := Int.gcd_one_right k
  unfold rN rD at *
  rw [g] at h
  simpa using h

/-- What is in lowest terms stays. -/
theorem red_red {n d : Int} (hd : 0 < d) : rN (rN n d) (rD n d) = rN n d ∧ rD (rN n d) (rD n d) = rD n d := by
  have h := red_cop (n := n) hd
  generalize rN n d = N at *
  generalize rD n d = D at *
  unfold rN rD
  rw [h]
  simp

/-- Fractions are compared by their lowest terms as by themselves. -/
theorem red_lt {n d n' d' : Int} (hd : 0 < d) (hd' : 0 < d') : rN n d * rD n' d' < rN n' d' * rD n d ↔ n * d' < n' * d := by
  have g := gcd_pos n hd
  have g' := gcd_pos n' hd'
  have gg := Int.mul_pos g g'
  have e1 : rN n d * rD n' d' * ((Int.gcd n d : Int) * (Int.gcd n' d' : Int)) = n * d' := by
    have : rN n d * rD n' d' * ((Int.gcd n d : Int) * (Int.gcd n' d' : Int)) = (rN n d * (Int.gcd n d : Int)) * (rD n' d' * (Int.gcd n' d' : Int)) := by ac_rfl
    rw [this, rN_mul, rD_mul]
  have e2 : rN n' d' * rD n d * ((Int.gcd n d : Int) * (Int.gcd n' d' : Int)) = n' * d := by
    have : rN n' d' * rD n d * ((Int.gcd n d : Int) * (Int.gcd n' d' : Int)) = (rN n' d' * (Int.gcd n' d' : Int)) * (rD n d * (Int.gcd n d : Int)) := by ac_rfl
    rw [this, rN_mul, rD_mul]
  rw [← e1, ← e2]
  constructor
  · intro h; exact Int.mul_lt_mul_of_pos_right h gg
  · intro h; exact Int.lt_of_mul_lt_mul_right h (by omega)

/-- A product of bounded numbers. -/
theorem mul_bd {a b A B : Int} (h1 : -A ≤ a) (h2 : a ≤ A) (h3 : -B ≤ b) (h4 : b ≤ B) : -(A * B) ≤ a * b ∧ a * b ≤ A * B := by
  have hA : 0 ≤ A := by omega
  have hB : 0 ≤ B := by omega
  have e : (a * b).natAbs ≤ (A * B).natAbs := by
    rw [Int.natAbs_mul, Int.natAbs_mul]
    exact Nat.mul_le_mul (by omega) (by omega)
  have : 0 ≤ A * B := Int.mul_nonneg hA hB
  omega

end Go.Proofs.YtohcnicadbpbbaaGreatDoor

namespace Go.Proofs.YtohcnicadbpbbaaGreatDoor
open Go.RowKit Go.Firn

theorem drewN_more {w wr : World} (h : ∃ m, wr = w.drewN m) (k : Nat) : ∃ m, wr.drewN k = w.drewN m := by
  obtain ⟨m, rfl⟩ := h; exact ⟨_, World.drewN_drewN _ _ _⟩

def RetDI (v : Int) (w : World) (e : Ending) (w' : World) : Prop := e = .returned (.int .i64 v) ∧ ∃ m, w' = w.drewN m
/-- A ratio. -/
def RetR (n d : Int) (w : World) (e : Ending) (w' : World) : Prop := e = .returned (.agg #[.int .i64 n, .int .i64 d]) ∧ Gr w w'
/-- A ratio and an error. -/
def RetRE (n d err : Int) (w : World) (e : Ending) (w' : World) : Prop := e = .returned (.tuple #[.agg #[.int .i64 n, .int .i64 d], .int .i64 err]) ∧ Gr w w'

/-- The size that a walk bears. -/
def Sz (a : Int) : Prop := -4611686018427387904 ≤ a ∧ a ≤ 4611686018427387904
theorem Sz.of {a : Int} (h1 : -4611686018427387904 ≤ a) (h2 : a ≤ 4611686018427387904) : Sz a := ⟨h1, h2⟩

theorem sz_tmod {a b : Int} (ha : Sz a) : Sz (a.tmod b) := by
  have h := Int.natAbs_tmod a b
  have h2 := Nat.mod_le a.natAbs b.natAbs
  unfold Sz at *
  omega

theorem gcd_any (a b : Int) (w : World) (ha : Sz a) (hb : Sz b) :
    Calls Tryz.prog 71 #[.int .i64 a, .int .i64 b] w (RetDI (Int.gcd a b) w) := by
  have Ha := Lib.hid ha
  have Hb := Lib.hid hb
  clear ha hb
  go_enter Tryz.func71, Tryz.ntmps71
  go_wp2
  go_loopw [0, 1] (fun x y wr => ∃ a' b' : Int, x = .int .i64 a' ∧ y = .int .i64 b' ∧ Hid (Sz a') ∧ Hid (Sz b') ∧ Hid (Int.gcd a' b' = Int.gcd a b) ∧ Hid (∃ m, wr = w.drewN m)) (fun _ y _ => (intOf y).natAbs)
  case atStart => exact ⟨a, b, rfl, rfl, Ha, Hb, rfl, 0, rfl⟩
  case round =>
    obtain ⟨a', b', rfl, rfl, h1, h2, h3, hm⟩ := hrel
    by_cases h0 : b' = 0
    · subst h0
      have E := Lib.hid (show (a'.natAbs : Int) = Int.gcd a b by rw [← h3.out, Int.gcd_zero_right])
      obtain ⟨l1, l2⟩ := h1.out
      by_cases hp : 0 ≤ a'
      · go_wp2
        go_ret
        refine ⟨?_, hm.out⟩
        rw [← E.out]
        show Ending.returned (.int .i64 a') = _
        rw [show (a'.natAbs : Int) = a' by omega]
      · go_wp2
        go_ret
        refine ⟨?_, hm.out⟩
        rw [← E.out]
        show Ending.returned (.int .i64 (-a')) = _
        rw [show (a'.natAbs : Int) = -a' by omega]
    · have t1 : (b' != 0) = true := by simp [h0]
      go_wp2
      go_quiet (fail)
      go_wp2
      go_roundw
      case rel => exact ⟨b', a'.tmod b', rfl, rfl, h2, sz_tmod h1.out, (gcd_step a' b').trans h3.out, drewN_more hm.out _⟩
      case measure => exact tmod_bd a' h0

theorem tmod_nonneg {a b : Int} (ha : 0 ≤ a) : 0 ≤ a.tmod b := by
  rw [Int.tmod_eq_emod_of_nonneg ha]
  by_cases h : b = 0
  · rw [h, Int.emod_zero]; exact ha
  · exact Int.emod_nonneg _ h

theorem max_abs (a : Int) : max a (-a) = (a.natAbs : Int) := by omega
theorem divisor_any (a b : Int) (w : World) (ha : Sz a) (hb : Sz b) :
    Calls Tryz.prog 59 #[.int .i64 a, .int .i64 b] w (RetDI (Int.gcd a b) w) := by
  obtain ⟨l1, l2⟩ := ha
  obtain ⟨l3, l4⟩ := hb
  have N := Lib.hid (show Int.gcd (a.natAbs : Int) (b.natAbs : Int) = Int.gcd a b from rfl)
  have Sa := Lib.hid (show Sz (a.natAbs : Int) from ⟨by omega, by omega⟩)
  have Sb := Lib.hid (show Sz (b.natAbs : Int) from ⟨by omega, by omega⟩)
  have C := Lib.hid (show ∀ x y : Int, Sz x → Sz y → 0 ≤ x → 0 ≤ y → True from fun _ _ _ _ _ _ => trivial)
  by_cases hp : 0 ≤ a <;> by_cases hq : 0 ≤ b
  all_goals
    have EA := Lib.hid (show (a.natAbs : Int) = a ∨ (a.natAbs : Int) = -a by omega)
    have EB := Lib.hid (show (b.natAbs : Int) = b ∨ (b.natAbs : Int) = -b by omega)
    have XA := Lib.hid (show (0 ≤ a → (a.natAbs : Int) = a) ∧ (¬ 0 ≤ a → (a.natAbs : Int) = -a) by omega)
    have XB := Lib.hid (show (0 ≤ b → (b.natAbs : Int) = b) ∧ (¬ 0 ≤ b → (b.natAbs : Int) = -b) by omega)
    have Hp := Lib.hid hp
    have Hq := Lib.hid hq
    go_enter Tryz.func59, Tryz.ntmps59
    go_wp2
    go_loopw [0, 1] (fun x y wr => ∃ a' b' : Int, x = .int .i64 a' ∧ y = .int .i64 b' ∧ Hid (Sz a' ∧ 0 ≤ a') ∧ Hid (Sz b' ∧ 0 ≤ b') ∧ Hid (Int.gcd a' b' = Int.gcd a b) ∧ Hid (∃ m, wr = w.drewN m)) (fun _ y _ => (intOf y).natAbs)
    case atStart =>
      refine ⟨(a.natAbs : Int), (b.natAbs : Int), ?_, ?_, Lib.hid ⟨Sa.out, by omega⟩, Lib.hid ⟨Sb.out, by omega⟩, N, Lib.hid ⟨0, rfl⟩⟩
      · first | rw [XA.out.1 Hp.out] | rw [XA.out.2 Hp.out]
      · first | rw [XB.out.1 Hq.out] | rw [XB.out.2 Hq.out]
    case round =>
      obtain ⟨a', b', rfl, rfl, h1, h2, h3, hm⟩ := hrel
      by_cases h0 : b' = 0
      · subst h0
        have E := Lib.hid (show (a'.natAbs : Int) = Int.gcd a b by rw [← h3.out, Int.gcd_zero_right])
        obtain ⟨⟨l3, l4⟩, l5⟩ := h1.out
        go_wp2
        go_ret
        refine ⟨?_, hm.out⟩
        rw [← E.out]
        show Ending.returned (.int .i64 a') = _
        rw [show (a'.natAbs : Int) = a' by omega]
      · have t1 : (b' != 0) = true := by simp [h0]
        go_wp2
        go_quiet (fail)
        go_wp2
        go_roundw
        case rel => exact ⟨b', a'.tmod b', rfl, rfl, h2, Lib.hid ⟨sz_tmod h1.out.1, tmod_nonneg h1.out.2⟩, Lib.hid ((gcd_step a' b').trans h3.out), drewN_more hm.out _⟩
        case measure => exact tmod_bd a' h0

theorem ratio_any (n d : Int) (w : World) (hn : Sz n) (hd : Sz d) (hd0 : 0 < d) :
    Calls Tryz.prog 36 #[.int .i64 n, .int .i64 d] w (RetR (rN n d) (rD n d) w) := by
  have g0 := gcd_pos n hd0
  have gne : (Int.gcd n d : Int) ≠ 0 := by omega
  have q1 := rN_tdiv n d
  have q2 := rD_tdiv n d
  have q3 : wrap64 (rN n d) = rN n d := IntWalk.wrap64_in _ (by have := rN_abs (n := n) hd0; unfold Sz at hn; omega)
  have q4 : wrap64 (rD n d) = rD n d := IntWalk.wrap64_in _ (by have := rD_le n hd0; have := rD_pos n hd0; unfold Sz at hd; omega)
  go_enter Tryz.func36, Tryz.ntmps36
  go_wp2_with (go_at_call 59; refine (divisor_any n d _ hn hd).mono ?_; rintro e w' ⟨rfl, m, rfl⟩)
  go_region
  all_goals go_wp2
  exact bodyPost_ret (v := .agg #[.int .i64 (rN n d), .int .i64 (rD n d)]) (by simp [results, Tryz.results36, go_sem]) rfl
    ⟨rfl, ((((Gr.refl w).alloc _).drewN _).setCell (Nat.le_refl _) _).setCell (Nat.le_refl _) _⟩

theorem Ratio_any (n d : Int) (w : World) (hn : Sz n) (hd : Sz d) (hd0 : 0 < d) :
    Calls Tryz.prog 50 #[.int .i64 n, .int .i64 d] w (RetR (rN n d) (rD n d) w) := by
  have g0 := gcd_pos n hd0
  have gne : (Int.gcd n d : Int) ≠ 0 := by omega
  have q1 := rN_tdiv n d
  have q2 := rD_tdiv n d
  have q3 : wrap64 (rN n d) = rN n d := IntWalk.wrap64_in _ (by have := rN_abs (n := n) hd0; unfold Sz at hn; omega)
  have q4 : wrap64 (rD n d) = rD n d := IntWalk.wrap64_in _ (by have := rD_le n hd0; have := rD_pos n hd0; unfold Sz at hd; omega)
  go_enter Tryz.func50, Tryz.ntmps50
  go_wp2_with (go_at_call 71; refine (gcd_any n d _ hn hd).mono ?_; rintro e w' ⟨rfl, m, rfl⟩)
  go_region
  all_goals go_wp2
  exact bodyPost_ret (v := .agg #[.int .i64 (rN n d), .int .i64 (rD n d)]) (by simp [results, Tryz.results50, go_sem]) rfl
    ⟨rfl, ((((Gr.refl w).alloc _).drewN _).setCell (Nat.le_refl _) _).setCell (Nat.le_refl _) _⟩

end Go.Proofs.YtohcnicadbpbbaaGreatDoor

namespace Go.Proofs.YtohcnicadbpbbaaGreatDoor
open Go.RowKit Go.Firn

def btw (a n b : Int) : Bool := decide (a ≤ n) && decide (n ≤ b)
theorem btw_true {a n b : Int} : btw a n b = true ↔ a ≤ n ∧ n ≤ b := by simp [btw]
theorem btw_false {a n b : Int} : btw a n b = false ↔ ¬ (a ≤ n ∧ n ≤ b) := by simp [btw]

theorem between_any (a n b : Int) (w : World) :
    Calls Tryz.prog 32 #[.int .i64 a, .int .i64 n, .int .i64 b] w fun e w' => e = .returned (.bool (btw a n b)) ∧ w = w' := by
  by_cases h1 : a ≤ n
  · have e : btw a n b = decide (n ≤ b) := by simp [btw, h1]
    go_enter Tryz.func32, Tryz.ntmps32
    go_wp2
    go_ret
    simp [e]
  · have e : btw a n b = false := by simp [btw, h1]
    have e' := Lib.hid e; clear e
    go_enter Tryz.func32, Tryz.ntmps32
    go_wp2
    go_ret
    simp [e'.out]

/-- A sum of the first k. -/
def sm (f : Nat → Int) : Nat → Int
  | 0 => 0
  | k + 1 => sm f k + f k
theorem sm_congr {f g : Nat → Int} : ∀ {k : Nat}, (∀ i, i < k → f i = g i) → sm f k = sm g k
  | 0, _ => rfl
  | k + 1, h => by
    show sm f k + f k = sm g k + g k
    rw [sm_congr (fun i hi => h i (by omega)), h k (by omega)]
theorem sm_bd {f : Nat → Int} {B : Int} : ∀ {k : Nat}, (∀ i, i < k → 0 ≤ f i ∧ f i ≤ B) → 0 ≤ sm f k ∧ sm f k ≤ B * k
  | 0, _ => ⟨Int.le_refl 0, by simp [sm]⟩
  | k + 1, h => by
    have a := sm_bd (f := f) (B := B) (k := k) (fun i hi => h i (by omega))
    have b := h k (by omega)
    show 0 ≤ sm f k + f k ∧ sm f k + f k ≤ B * ((k + 1 : Nat) : Int)
    rw [Int.natCast_add, Int.mul_add]
    simp only [Int.natCast_one, Int.mul_one]
    omega
theorem sm_le {f : Nat → Int} {j : Nat} : ∀ {k : Nat}, j ≤ k → (∀ i, i < k → 0 ≤ f i) → sm f j ≤ sm f k
  | 0, hj, _ => by rw [Nat.le_zero.1 hj]; exact Int.le_refl _
  | k + 1, hj, h => by
    rcases Nat.lt_or_ge k j with hl | hl
    · rw [show j = k + 1 by omega]; exact Int.le_refl _
    · have a := sm_le (f := f) hl (fun i hi => h i (by omega))
      have b := h k (by omega)
      show sm f j ≤ sm f k + f k
      omega

/-- Whether one of the first k is so. -/
def anyP (p : Nat → Bool) (k : Nat) : Bool := (List.range k).any p
theorem anyP_succ (p : Nat → Bool) (k : Nat) : anyP p (k + 1) = (anyP p k || p k) := by unfold anyP; rw [List.range_succ, List.any_append]; simp
theorem anyP_stop {p : Nat → Bool} {k n : Nat} (hk : k < n) (h : p k = true) : anyP p n = true := by unfold anyP; rw [List.any_eq_true]; exact ⟨k, List.mem_range.2 hk, h⟩
theorem anyP_none {p : Nat → Bool} {n : Nat} : anyP p n = false ↔ ∀ i, i < n → p i = false := by
  unfold anyP; rw [List.any_eq_false]
  simp only [List.mem_range, Bool.not_eq_true]

theorem sum_any (a : Option Addr) (n c : Nat) (f : Nat → Int) (w : World) (hn : n ≤ 1000) (hr : RdI w a n f) (hf : ∀ i, i < n → 0 ≤ f i ∧ f i ≤ 1000000) :
    Calls Tryz.prog 53 #[.slice a n c] w fun e w' => e = .returned (.int .i64 (sm f n)) ∧ w' = w := by
  have HR := Lib.hid hr
  have HF := Lib.hid hf
  clear hr hf
  go_enter Tryz.func53, Tryz.ntmps53
  go_wp2_with fail
  go_loopw [3, 8] (fun s i wr => ∃ k : Nat, k ≤ n ∧ i = .int .i64 k ∧ s = .int .i64 (sm f k) ∧ wr = w) (fun _ i _ => n - (intOf i).toNat)
  case atStart => exact ⟨0, Nat.zero_le _, rfl, rfl, rfl⟩
  case round =>
    obtain ⟨k, hk, rfl, rfl, rfl⟩ := hrel
    by_cases hlt : k < n
    · obtain ⟨b, o, rfl, hc⟩ := HR.out.at hlt
      have c1 := hc k hlt
      have i1 : (k : Int) < n := by omega
      obtain ⟨b1, b2⟩ := HF.out k hlt
      obtain ⟨b3, b4⟩ := sm_bd (f := f) (B := 1000000) (k := k) (fun i hi => HF.out i (by omega))
      have S := Lib.hid (show sm f (k + 1) = sm f k + f k from rfl)
      clear hc hlt
      generalize sm f k = s at *
      generalize f k = x at *
      have q1 : IntKind.i64.wrap (s + x) = s + x := IntWalk.i64_in _ (by omega)
      go_wp2_with fail
      go_roundw
      case rel => exact ⟨k + 1, by omega, by go_num, by rw [S.out], by trivial⟩
      case measure => simp [intOf]; omega
    · obtain rfl : k = n := by omega
      go_wp2_with fail
      go_ret
      exact ⟨rfl, rfl⟩

theorem Total_any (a : Option Addr) (n c : Nat) (f : Nat → Int) (w : World) (hn : n ≤ 1000) (hr : RdI w a n f) (hf : ∀ i, i < n → 0 ≤ f i ∧ f i ≤ 1000000) :
    Calls Tryz.prog 47 #[.slice a n c] w fun e w' => e = .returned (.int .i64 (sm f n)) ∧ w' = w := by
  have HR := Lib.hid hr
  have HF := Lib.hid hf
  clear hr hf
  go_enter Tryz.func47, Tryz.ntmps47
  go_wp2_with fail
  go_loopw [3, 8] (fun s i wr => ∃ k : Nat, k ≤ n ∧ i = .int .i64 k ∧ s = .int .i64 (sm f k) ∧ wr = w) (fun _ i _ => n - (intOf i).toNat)
  case atStart => exact ⟨0, Nat.zero_le _, rfl, rfl, rfl⟩
  case round =>
    obtain ⟨k, hk, rfl, rfl, rfl⟩ := hrel
    by_cases hlt : k < n
    · obtain ⟨b, o, rfl, hc⟩ := HR.out.at hlt
      have c1 := hc k hlt
      have i1 : (k : Int) < n := by omega
      obtain ⟨b1, b2⟩ := HF.out k hlt
      obtain ⟨b3, b4⟩ := sm_bd (f := f) (B := 1000000) (k := k) (fun i hi => HF.out i (by omega))
      have S := Lib.hid (show sm f (k + 1) = sm f k + f k from rfl)
      clear hc hlt
      generalize sm f k = s at *
      generalize f k = x at *
      have q1 : IntKind.i64.wrap (s + x) = s + x := IntWalk.i64_in _ (by omega)
      go_wp2_with fail
      go_roundw
      case rel => exact ⟨k + 1, by omega, by go_num, by rw [S.out], by trivial⟩
      case measure => simp [intOf]; omega
    · obtain rfl : k = n := by omega
      go_wp2_with fail
      go_ret
      exact ⟨rfl, rfl⟩

/-- The weights of a cut. -/
def kp (f g : Nat → Int) (m : Nat) : Int := sm (fun i => f (g i).toNat) m
theorem kp_bd {f g : Nat → Int} {B : Int} {n k : Nat} (hf : ∀ i, i < n → 0 ≤ f i ∧ f i ≤ B) (hg : ∀ i, i < k → 0 ≤ g i ∧ g i < n) : 0 ≤ kp f g k ∧ kp f g k ≤ B * k :=
  sm_bd fun i hi => hf _ (by have := hg i hi; omega)

theorem kept_any (a a2 : Option Addr) (n c m c2 : Nat) (f g : Nat → Int) (w : World) (hm : m ≤ 1000) (hr : RdI w a n f) (hr2 : RdI w a2 m g) (hf : ∀ i, i < n → 0 ≤ f i ∧ f i ≤ 1000000) (hg : ∀ i, i < m → 0 ≤ g i ∧ g i < n) :
    Calls Tryz.prog 41 #[.slice a n c, .slice a2 m c2] w fun e w' => e = .returned (.int .i64 (kp f g m)) ∧ w' = w := by
  have HR := Lib.hid hr
  have HR2 := Lib.hid hr2
  have HF := Lib.hid hf
  have HG := Lib.hid hg
  clear hr hf hr2 hg
  go_enter Tryz.func41, Tryz.ntmps41
  go_wp2_with fail
  go_loopw [5, 10] (fun s i wr => ∃ k : Nat, k ≤ m ∧ i = .int .i64 k ∧ s = .int .i64 (kp f g k) ∧ wr = w) (fun _ i _ => m - (intOf i).toNat)
  case atStart => exact ⟨0, Nat.zero_le _, rfl, rfl, rfl⟩
  case round =>
    obtain ⟨k, hk, rfl, rfl, rfl⟩ := hrel
    by_cases hlt : k < m
    · obtain ⟨b, o, rfl, hc⟩ := HR2.out.at hlt
      obtain ⟨g0, g1⟩ := HG.out k hlt
      obtain ⟨j, hj⟩ : ∃ j : Nat, g k = (j : Int) := ⟨(g k).toNat, by omega⟩
      have hjn : j < n := by omega
      obtain ⟨b', o', rfl, hc'⟩ := HR.out.at hjn
      have c1 := hc k hlt
      have c2 := hc' j hjn
      rw [hj] at c1
      have i1 : (k : Int) < m := by omega
      have i2 : (j : Int) < n := by omega
      obtain ⟨b1, b2⟩ := HF.out j hjn
      obtain ⟨b3, b4⟩ := kp_bd (f := f) (g := g) (B := 1000000) (n := n) (k := k) HF.out (fun i hi => HG.out i (by omega))
      have S := Lib.hid (show kp f g (k + 1) = kp f g k + f j by show kp f g k + f (g k).toNat = _; rw [hj]; rfl)
      clear hc hlt hc' hjn hj g0 g1
      generalize kp f g k = s at *
      generalize f j = x at *
      have q1 : IntKind.i64.wrap (s + x) = s + x := IntWalk.i64_in _ (by omega)
      go_wp2_with fail
      go_roundw
      case rel => exact ⟨k + 1, by omega, by go_num, by rw [S.out], by trivial⟩
      case measure => simp [intOf]; omega
    · obtain rfl : k = m := by omega
      go_wp2_with fail
      go_ret
      exact ⟨rfl, rfl⟩

theorem refkept_any (a a2 : Option Addr) (n c m c2 : Nat) (f g : Nat → Int) (w : World) (hm : m ≤ 1000) (hr : RdI w a n f) (hr2 : RdI w a2 m g) (hf : ∀ i, i < n → 0 ≤ f i ∧ f i ≤ 1000000) (hg : ∀ i, i < m → 0 ≤ g i ∧ g i < n) :
    Calls Tryz.prog 51 #[.slice a n c, .slice a2 m c2] w fun e w' => e = .returned (.int .i64 (kp f g m)) ∧ w' = w := by
  have HR := Lib.hid hr
  have HR2 := Lib.hid hr2
  have HF := Lib.hid hf
  have HG := Lib.hid hg
  clear hr hf hr2 hg
  go_enter Tryz.func51, Tryz.ntmps51
  go_wp2_with fail
  go_loopw [5, 10] (fun s i wr => ∃ k : Nat, k ≤ m ∧ i = .int .i64 k ∧ s = .int .i64 (kp f g k) ∧ wr = w) (fun _ i _ => m - (intOf i).toNat)
  case atStart => exact ⟨0, Nat.zero_le _, rfl, rfl, rfl⟩
  case round =>
    obtain ⟨k, hk, rfl, rfl, rfl⟩ := hrel
    by_cases hlt : k < m
    · obtain ⟨b, o, rfl, hc⟩ := HR2.out.at hlt
      obtain ⟨g0, g1⟩ := HG.out k hlt
      obtain ⟨j, hj⟩ : ∃ j : Nat, g k = (j : Int) := ⟨(g k).toNat, by omega⟩
      have hjn : j < n := by omega
      obtain ⟨b', o', rfl, hc'⟩ := HR.out.at hjn
      have c1 := hc k hlt
      have c2 := hc' j hjn
      rw [hj] at c1
      have i1 : (k : Int) < m := by omega
      have i2 : (j : Int) < n := by omega
      obtain ⟨b1, b2⟩ := HF.out j hjn
      obtain ⟨b3, b4⟩ := kp_bd (f := f) (g := g) (B := 1000000) (n := n) (k := k) HF.out (fun i hi => HG.out i (by omega))
      have S := Lib.hid (show kp f g (k + 1) = kp f g k + f j by show kp f g k + f (g k).toNat = _; rw [hj]; rfl)
      clear hc hlt hc' hjn hj g0 g1
      generalize kp f g k = s at *
      generalize f j = x at *
      have q1 : IntKind.i64.wrap (s + x) = s + x := IntWalk.i64_in _ (by omega)
      go_wp2_with fail
      go_roundw
      case rel => exact ⟨k + 1, by omega, by go_num, by rw [S.out], by trivial⟩
      case measure => simp [intOf]; omega
    · obtain rfl : k = m := by omega
      go_wp2_with fail
      go_ret
      exact ⟨rfl, rfl⟩

end Go.Proofs.YtohcnicadbpbbaaGreatDoor

namespace Go.Proofs.YtohcnicadbpbbaaGreatDoor
open Go.RowKit Go.Firn

/-- A weight is out of range. -/
def outR (x : Int) : Bool := !btw 0 x 1000
theorem outR_false {x : Int} : outR x = false ↔ 0 ≤ x ∧ x ≤ 1000 := by unfold outR; rw [Bool.not_eq_false', btw_true]
theorem weighed1_any (x : Int) (w : World) : Calls Tryz.prog 73 #[.int .i64 x] w (RetB (outR x) w) := by
  have g1 := Gr.refl w
  go_enter Tryz.func73, Tryz.ntmps73
  go_wp2_with (go_at_call 32; (with_reducible refine (between_any 0 x 1000 _).mono ?_); rintro e w1 ⟨rfl, rfl⟩)
  go_ret
  exact ⟨rfl, g1⟩

/-- An index where one is so, or a number below 0. -/
def RetIx (p : Nat → Bool) (n : Nat) (w : World) (e : Ending) (w' : World) : Prop := ∃ z : Int, e = .returned (.int .i64 z) ∧ decide (0 ≤ z) = anyP p n ∧ Gr w w'

theorem IndexFuncI_any (F : Nat) (hcf : ∀ (args : Array Value) (wz : World), (callFunc F args).run Tryz.prog wz = .ok (.enter F args) wz) (p : Nat → Bool) (a : Option Addr) (n c : Nat) (X : Nat → Int) (w : World) (hn : n ≤ 1000) (hr : RdI w a n X)
    (H : Hid (∀ j, j < n → ∀ wz, Gr w wz → Calls Tryz.prog F #[.int .i64 (X j)] wz (RetB (p j) wz))) :
    Calls Tryz.prog 84 #[.slice a n c, .func (.func F) #[] #[]] w (RetIx p n w) := by
  have HR := Lib.hid hr
  clear hr
  go_enter Tryz.func84, Tryz.ntmps84
  go_wp2_with fail
  go_loopw [8] (fun i wr => ∃ k : Nat, k ≤ n ∧ i = .int .i64 k ∧ Hid (anyP p k = false) ∧ Gr w wr) (fun i _ => n - (intOf i).toNat)
  case atStart => exact ⟨0, Nat.zero_le _, rfl, rfl, Gr.refl _⟩
  case round =>
    obtain ⟨k, hk, rfl, Hi, hg⟩ := hrel
    by_cases hlt : k < n
    · obtain ⟨b, o, rfl, hc⟩ := (HR.out.gr hg).at hlt
      have c1 := hc k hlt
      have i1 : (k : Int) < n := by omega
      have C := Lib.hid (H.out k hlt wr hg)
      have S := Lib.hid (anyP_succ p k)
      have ST := Lib.hid (fun h => anyP_stop (p := p) hlt h)
      clear hc hlt
      generalize p k = pk at C S ST
      generalize X k = x at *
      cases pk with
      | true =>
        go_wp2_with fail
        refine C.out.mono ?_
        rintro e w1 ⟨rfl, g1⟩
        clear c1
        go_wp2_with fail
        go_ret
        exact ⟨(k : Int), rfl, by rw [ST.out trivial]; simp, hg.trans g1⟩
      | false =>
        have S' := Lib.hid (show anyP p (k + 1) = false by rw [S.out, Hi.out]; rfl)
        go_wp2_with fail
        refine C.out.mono ?_
        rintro e w1 ⟨rfl, g1⟩
        clear c1
        go_wp2_with fail
        go_roundw
        case rel => exact ⟨k + 1, by omega, by go_num, S', hg.trans g1⟩
        case measure => simp [intOf]; omega
    · obtain rfl : k = n := by omega
      go_wp2_with fail
      go_ret
      exact ⟨-1, rfl, by rw [Hi.out]; rfl, hg⟩

theorem ContainsFuncI_any (F : Nat) (hcf : ∀ (args : Array Value) (wz : World), (callFunc F args).run Tryz.prog wz = .ok (.enter F args) wz) (p : Nat → Bool) (a : Option Addr) (n c : Nat) (X : Nat → Int) (w : World) (hn : n ≤ 1000) (hr : RdI w a n X)
    (H : Hid (∀ j, j < n → ∀ wz, Gr w wz → Calls Tryz.prog F #[.int .i64 (X j)] wz (RetB (p j) wz))) :
    Calls Tryz.prog 72 #[.slice a n c, .func (.func F) #[] #[]] w (RetB (anyP p n) w) := by
  have C := Lib.hid (IndexFuncI_any F hcf p a n c X w hn hr H)
  clear H hr hcf
  go_enter Tryz.func72, Tryz.ntmps72
  go_wp2_with (go_at_call 84; (with_reducible refine C.out.mono ?_); rintro e w1 ⟨z, rfl, hz, g1⟩; have HZ := Lib.hid hz; clear hz)
  go_ret
  rw [← HZ.out]
  exact ⟨rfl, g1⟩

theorem cf68 (args : Array Value) (wz : World) : (callFunc 73 args).run Tryz.prog wz = .ok (.enter 73 args) wz := by kernel_rfl

/-- Which weights are valid. -/
def vW (n : Nat) (f : Nat → Int) : Bool := btw 1 n 10 && !(anyP (fun j => outR (f j)) n) && decide (0 < sm f n)
structure VW (n : Nat) (f : Nat → Int) : Prop where
  one : 1 ≤ n
  few : n ≤ 10
  ok : ∀ i, i < n → 0 ≤ f i ∧ f i ≤ 1000
  pos : 0 < sm f n
theorem vW_iff {n : Nat} {f : Nat → Int} : vW n f = true ↔ VW n f := by
  unfold vW
  simp only [Bool.and_eq_true, decide_eq_true_eq, btw_true, Bool.not_eq_true', anyP_none, outR_false]
  exact ⟨fun ⟨⟨⟨a, b⟩, c⟩, d⟩ => ⟨by omega, by omega, c, d⟩, fun h => ⟨⟨⟨by have := h.one; omega, by have := h.few; omega⟩, h.ok⟩, h.pos⟩⟩

set_option maxHeartbeats 1000000 in
theorem weighed_any (a : Option Addr) (n c : Nat) (f : Nat → Int) (w : World) (hn : n ≤ 1000) (hr : RdI w a n f) :
    Calls Tryz.prog 52 #[.slice a n c] w (RetB (vW n f) w) := by
  have HR := Lib.hid hr
  have hmf : ∀ (fn : Fn) (first cap : Array Value) (w : World), (Instr.makeFunc fn first cap).run Tryz.prog w = .ok (.func fn first cap) w := fun _ _ _ _ => rfl
  have C1 := Lib.hid (ContainsFuncI_any 73 cf68 (fun j => outR (f j)) a n c f w hn hr (Lib.hid fun j _ wz _ => weighed1_any (f j) wz))
  have g0 := Gr.refl w
  clear hr
  cases h1 : btw 1 n 10 with
  | true =>
    have B := Lib.hid h1
    cases h2 : anyP (fun j => outR (f j)) n with
    | true =>
      have E := Lib.hid (show vW n f = false by unfold vW; rw [h1, h2]; rfl)
      rw [h2] at C1
      clear h1 h2
      go_enter Tryz.func52, Tryz.ntmps52
      go_wp2_with (first
        | (go_at_call 32; (with_reducible refine (between_any 1 n 10 _).mono ?_); rintro e w1 ⟨rfl, rfl⟩; rw [B.out])
        | (go_at_call 72; (with_reducible refine C1.out.mono ?_); rintro e w2 ⟨rfl, g1⟩))
      go_ret
      rw [E.out]
      exact ⟨rfl, g1⟩
    | false =>
      have E := Lib.hid (show vW n f = decide (0 < sm f n) by unfold vW; rw [h1, h2]; rfl)
      have C2 := Lib.hid (fun w' (g : Gr w w') => sum_any a n c f w' hn (HR.out.gr g) (fun i hi => by have := outR_false.1 (anyP_none.1 h2 i hi); omega))
      rw [h2] at C1
      clear h1 h2
      go_enter Tryz.func52, Tryz.ntmps52
      go_wp2_with (first
        | (go_at_call 32; (with_reducible refine (between_any 1 n 10 _).mono ?_); rintro e w1 ⟨rfl, rfl⟩; rw [B.out])
        | (go_at_call 72; (with_reducible refine C1.out.mono ?_); rintro e w2 ⟨rfl, g1⟩)
        | (go_at_call 53; (with_reducible refine (C2.out _ g1).mono ?_); rintro e w3 ⟨rfl, rfl⟩))
      go_ret
      rw [E.out]
      exact ⟨rfl, g1⟩
  | false =>
    have B := Lib.hid h1
    have E := Lib.hid (show vW n f = false by unfold vW; rw [h1]; rfl)
    clear h1
    go_enter Tryz.func52, Tryz.ntmps52
    go_wp2_with (go_at_call 32; (with_reducible refine (between_any 1 n 10 _).mono ?_); rintro e w1 ⟨rfl, rfl⟩; rw [B.out])
    go_ret
    rw [E.out]
    exact ⟨rfl, g0⟩

set_option maxHeartbeats 1000000 in
theorem areWeights_any (a : Option Addr) (n c : Nat) (f : Nat → Int) (w : World) (hn : n ≤ 1000) (hr : RdI w a n f) :
    Calls Tryz.prog 19 #[.slice a n c] w (RetB (vW n f) w) := by
  have HR := Lib.hid hr
  clear hr
  go_enter Tryz.func19, Tryz.ntmps19
  go_wp2_with fail
  go_loopw [7] (fun i wr => ∃ k : Nat, k ≤ n ∧ i = .int .i64 k ∧ Hid (∀ j, j < k → outR (f j) = false) ∧ wr = w) (fun i _ => n - (intOf i).toNat)
  case atStart => exact ⟨0, Nat.zero_le _, rfl, Lib.hid fun j hj => by omega, rfl⟩
  case round =>
    obtain ⟨k, hk, rfl, HI, rfl⟩ := hrel
    have g0 := Gr.refl wr
    by_cases hlt : k < n
    · obtain ⟨b, o, rfl, hc⟩ := HR.out.at hlt
      have c1 := hc k hlt
      have i1 : (k : Int) < n := by omega
      clear hc
      by_cases hx : 0 ≤ f k ∧ f k ≤ 1000
      · obtain ⟨x1, x2⟩ := hx
        have HI' := Lib.hid (show ∀ j, j < k + 1 → outR (f j) = false from fun j hj => by
          rcases Nat.lt_or_ge j k with h | h
          · exact HI.out j h
          · rw [show j = k by omega]; exact outR_false.2 ⟨x1, x2⟩)
        clear hlt
        generalize f k = x at c1 x1 x2
        have d1 : ¬ x < 0 := by omega
        have d2 : ¬ (1000 : Int) < x := by omega
        clear x1 x2
        go_wp2_with fail
        go_roundw
        case rel => exact ⟨k + 1, by omega, by go_num, HI', by trivial⟩
        case measure => simp [intOf]; omega
      · have E := Lib.hid (show vW n f = false by
          rw [Bool.eq_false_iff]; intro hv; exact hx ((vW_iff.1 hv).ok k hlt))
        clear hlt
        generalize f k = x at c1 hx
        by_cases hx0 : x < 0
        · clear hx
          go_wp2_with fail
          go_ret
          rw [E.out]
          exact ⟨rfl, g0⟩
        · have hx2 : (1000 : Int) < x := by omega
          clear hx
          go_wp2_with fail
          go_ret
          rw [E.out]
          exact ⟨rfl, g0⟩
    · obtain rfl : k = n := by omega
      have A := Lib.hid (show anyP (fun j => outR (f j)) k = false from anyP_none.2 HI.out)
      have C := Lib.hid (Total_any a k c f wr hn HR.out (fun i hi => by have := outR_false.1 (HI.out i hi); omega))
      clear hlt
      by_cases h1 : 1 ≤ k
      · by_cases h2 : k ≤ 10
        · have E := Lib.hid (show vW k f = decide (0 < sm f k) by unfold vW; rw [A.out, btw_true.2 ⟨by omega, by omega⟩]; rfl)
          have d1 : (1 : Int) ≤ k := by omega
          have d2 : (k : Int) ≤ 10 := by omega
          clear h1 h2 hk
          go_wp2_with (go_at_call 47; (with_reducible refine C.out.mono ?_); rintro e w3 ⟨rfl, rfl⟩)
          go_ret
          rw [E.out]
          exact ⟨rfl, g0⟩
        · have E := Lib.hid (show vW k f = false by unfold vW; rw [btw_false.2 (by omega)]; rfl)
          have d1 : (1 : Int) ≤ k := by omega
          have d2 : ¬ (k : Int) ≤ 10 := by omega
          clear h1 h2 hk
          go_wp2_with fail
          go_ret
          rw [E.out]
          exact ⟨rfl, g0⟩
      · have E := Lib.hid (show vW k f = false by unfold vW; rw [btw_false.2 (by omega)]; rfl)
        have d1 : ¬ (1 : Int) ≤ k := by omega
        clear h1 hk
        go_wp2_with fail
        go_ret
        rw [E.out]
        exact ⟨rfl, g0⟩

end Go.Proofs.YtohcnicadbpbbaaGreatDoor

namespace Go.Proofs.YtohcnicadbpbbaaGreatDoor
open Go.RowKit Go.Firn

/-- A box that holds odds. -/
def BoxO (w : World) (b : Nat) (s t : Value) : Prop := w.cell? ⟨b, 0, none⟩ = some s ∧ w.cell? ⟨b, 1, none⟩ = some t
theorem BoxO.gr {w w' : World} {b : Nat} {s t : Value} (h : BoxO w b s t) (g : Gr w w') : BoxO w' b s t := ⟨g.cell h.1, g.cell h.2⟩
theorem BoxO.new {w : World} {b e : Nat} {s t : Value} (hb : w.heap.size = b) : BoxO (w.alloc (.cells #[s, t] e)) b s t :=
  ⟨((Gr.refl (w.alloc (.cells #[s, t] e))).fresh' (b := b) (j := 0) (v := s) hb rfl).1, ((Gr.refl (w.alloc (.cells #[s, t] e))).fresh' (b := b) (j := 1) (v := t) hb rfl).1⟩

/-- Which odds are valid. -/
def vO (n m : Nat) (f g : Nat → Int) : Bool := vW n f && vW m g && decide ((n : Int) = m)
structure VO (n m : Nat) (f g : Nat → Int) : Prop where
  noise : VW n f
  signal : VW n g
  same : n = m
theorem vO_iff {n m : Nat} {f g : Nat → Int} : vO n m f g = true ↔ VO n m f g := by
  unfold vO
  simp only [Bool.and_eq_true, decide_eq_true_eq, vW_iff]
  constructor
  · rintro ⟨⟨a, b⟩, c⟩
    obtain rfl : n = m := by omega
    exact ⟨a, b, rfl⟩
  · rintro ⟨a, b, rfl⟩
    exact ⟨⟨a, b⟩, rfl⟩

set_option maxHeartbeats 1000000 in
theorem Valid_any (a a2 : Option Addr) (n c m d : Nat) (f g : Nat → Int) (w : World) (hn : n ≤ 1000) (hm : m ≤ 1000) (hr : RdI w a n f) (hs : RdI w a2 m g) :
    Calls Tryz.prog 27 #[.agg #[.slice a n c, .slice a2 m d]] w (RetB (vO n m f g) w) := by
  have G0 := Lib.hid ((Gr.refl w).alloc (.cells #[.slice a n c, .slice a2 m d] 24))
  obtain ⟨p1, p2⟩ := BoxO.new (w := w) (e := 24) (s := .slice a n c) (t := .slice a2 m d) rfl
  have BX := Lib.hid (BoxO.new (w := w) (e := 24) (s := .slice a n c) (t := .slice a2 m d) rfl)
  have C1 := Lib.hid (weighed_any a n c f _ hn (hr.gr G0.out))
  have C2 := Lib.hid (fun w' (k : Gr (w.alloc (.cells #[.slice a n c, .slice a2 m d] 24)) w') => weighed_any a2 m d g w' hm ((hs.gr G0.out).gr k))
  clear hr hs
  cases h1 : vW n f with
  | false =>
    have E := Lib.hid (show vO n m f g = false by unfold vO; rw [h1]; rfl)
    rw [h1] at C1
    clear h1
    go_enter Tryz.func27, Tryz.ntmps27
    go_wp2_with (go_at_call 52; (with_reducible refine C1.out.mono ?_); rintro e w1 ⟨rfl, g1⟩)
    go_ret
    rw [E.out]
    exact ⟨rfl, G0.out.trans g1⟩
  | true =>
    rw [h1] at C1
    cases h2 : vW m g with
    | false =>
      have E := Lib.hid (show vO n m f g = false by unfold vO; rw [h1, h2]; rfl)
      rw [h2] at C2
      clear h1 h2
      go_enter Tryz.func27, Tryz.ntmps27
      go_wp2_with (first
        | (go_at_call 52; (with_reducible refine C1.out.mono ?_); rintro e w1 ⟨rfl, g1⟩; obtain ⟨q1, q2⟩ := BX.out.gr g1; have G1 := Lib.hid g1; clear g1 p1 p2)
        | (go_at_call 52; (with_reducible refine (C2.out _ G1.out).mono ?_); rintro e w2 ⟨rfl, g2⟩))
      go_ret
      rw [E.out]
      exact ⟨rfl, (G0.out.trans G1.out).trans g2⟩
    | true =>
      have E := Lib.hid (show vO n m f g = decide ((n : Int) = m) by unfold vO; rw [h1, h2]; rfl)
      rw [h2] at C2
      clear h1 h2
      go_enter Tryz.func27, Tryz.ntmps27
      go_wp2_with (first
        | (go_at_call 52; (with_reducible refine C1.out.mono ?_); rintro e w1 ⟨rfl, g1⟩; obtain ⟨q1, q2⟩ := BX.out.gr g1; have G1 := Lib.hid g1; clear g1 p1 p2)
        | (go_at_call 52; (with_reducible refine (C2.out _ G1.out).mono ?_); rintro e w2 ⟨rfl, g2⟩; obtain ⟨r1, r2⟩ := (BX.out.gr G1.out).gr g2; have G2 := Lib.hid g2; clear g2 q1 q2))
      go_ret
      rw [E.out]
      exact ⟨rfl, (G0.out.trans G1.out).trans G2.out⟩

theorem vO_rev {n m : Nat} {f g : Nat → Int} : vO n m f g = (decide ((n : Int) = m) && (vW n f && vW m g)) := by unfold vO; rw [Bool.and_comm]

set_option maxHeartbeats 1000000 in
theorem refValid_any (a a2 : Option Addr) (n c m d : Nat) (f g : Nat → Int) (w : World) (hn : n ≤ 1000) (hm : m ≤ 1000) (hr : RdI w a n f) (hs : RdI w a2 m g) :
    Calls Tryz.prog 6 #[.agg #[.slice a n c, .slice a2 m d]] w (RetB (vO n m f g) w) := by
  have G0 := Lib.hid ((Gr.refl w).alloc (.cells #[.slice a n c, .slice a2 m d] 24))
  obtain ⟨p1, p2⟩ := BoxO.new (w := w) (e := 24) (s := .slice a n c) (t := .slice a2 m d) rfl
  have BX := Lib.hid (BoxO.new (w := w) (e := 24) (s := .slice a n c) (t := .slice a2 m d) rfl)
  have C1 := Lib.hid (areWeights_any a n c f _ hn (hr.gr G0.out))
  have C2 := Lib.hid (fun w' (k : Gr (w.alloc (.cells #[.slice a n c, .slice a2 m d] 24)) w') => areWeights_any a2 m d g w' hm ((hs.gr G0.out).gr k))
  clear hr hs
  cases h0 : decide ((n : Int) = m) with
  | false =>
    have E := Lib.hid (show vO n m f g = false by rw [vO_rev, h0]; rfl)
    have h0' := of_decide_eq_false h0
    clear h0
    go_enter Tryz.func6, Tryz.ntmps6
    go_wp2_with fail
    go_ret
    rw [E.out]
    exact ⟨rfl, G0.out⟩
  | true =>
    have h0' := of_decide_eq_true h0
    cases h1 : vW n f with
    | false =>
      have E := Lib.hid (show vO n m f g = false by unfold vO; rw [h1]; rfl)
      rw [h1] at C1
      clear h1 h0
      go_enter Tryz.func6, Tryz.ntmps6
      go_wp2_with (go_at_call 19; (with_reducible refine C1.out.mono ?_); rintro e w1 ⟨rfl, g1⟩)
      go_ret
      rw [E.out]
      exact ⟨rfl, G0.out.trans g1⟩
    | true =>
      have E := Lib.hid (show vO n m f g = vW m g by rw [vO_rev, h1, h0]; rfl)
      rw [h1] at C1
      clear h1 h0
      go_enter Tryz.func6, Tryz.ntmps6
      go_wp2_with (first
        | (go_at_call 19; (with_reducible refine C1.out.mono ?_); rintro e w1 ⟨rfl, g1⟩; obtain ⟨q1, q2⟩ := BX.out.gr g1; have G1 := Lib.hid g1; clear g1 p1 p2)
        | (go_at_call 19; (with_reducible refine (C2.out _ G1.out).mono ?_); rintro e w2 ⟨rfl, g2⟩))
      go_ret
      rw [E.out]
      exact ⟨rfl, (G0.out.trans G1.out).trans g2⟩

/-- Long odds. -/
def lgO (n m : Nat) : Bool := decide ((60 : Int) < n) || decide ((60 : Int) < m)
theorem lgO_false {n m : Nat} : lgO n m = false ↔ n ≤ 60 ∧ m ≤ 60 := by
  unfold lgO
  rw [Bool.or_eq_false_iff, decide_eq_false_iff_not, decide_eq_false_iff_not]
  omega
theorem Long_any (a a2 : Option Addr) (n c m d : Nat) (w : World) :
    Calls Tryz.prog 5 #[.agg #[.slice a n c, .slice a2 m d]] w (RetB (lgO n m) w) := by
  have G0 := Lib.hid ((Gr.refl w).alloc (.cells #[.slice a n c, .slice a2 m d] 24))
  obtain ⟨p1, p2⟩ := BoxO.new (w := w) (e := 24) (s := .slice a n c) (t := .slice a2 m d) rfl
  by_cases h : (60 : Int) < n
  · have E := Lib.hid (show lgO n m = true by unfold lgO; rw [decide_eq_true h]; rfl)
    go_enter Tryz.func5, Tryz.ntmps5
    go_wp2_with fail
    go_ret
    rw [E.out]
    exact ⟨rfl, G0.out⟩
  · have E := Lib.hid (show lgO n m = decide ((60 : Int) < m) by unfold lgO; rw [decide_eq_false h]; rfl)
    go_enter Tryz.func5, Tryz.ntmps5
    go_wp2_with fail
    go_ret
    rw [E.out]
    exact ⟨rfl, G0.out⟩

end Go.Proofs.YtohcnicadbpbbaaGreatDoor
