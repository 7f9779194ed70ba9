/- Contracts of chapter 1: the program's own Parse: its loop's state. -/
import Derived.Test.YtdlbgelidcfmiaaDoorTF
namespace Go.Proofs.YtdlbgelidcfmiaaDoor
open Go.RowKit Go.Firn Go.Shelf

theorem rdsO_none (L t : List Key) (h : rdsO L = none) : rdsO (L ++ t) = none := by
  induction L with
  | nil => cases h
  | cons q r ih =>
    show rdsO (q :: (r ++ t)) = none
    unfold rdsO at h ⊢
    cases hq : rdO q with
    | none => rfl
    | some x =>
      rw [hq] at h
      cases hr : rdsO r with
      | none => rw [ih hr]; rfl
      | some d => rw [hr] at h; cases h

/-- A cell that may be written. -/
def Bx (W : World) (b : Nat) (v : Value) : Prop := W.cell? ⟨b, 0, none⟩ = some v ∧ W.frozen? ⟨b, 0, none⟩ = false
theorem Bx.gr {W W' : World} {b : Nat} {v : Value} (h : Bx W b v) (g : Gr W W') : Bx W' b v := ⟨g.cell h.1, (Below.frozen g (World.block_lt_of_cell? W _ h.1)).trans h.2⟩
theorem Bx.put {W : World} {b : Nat} {v u : Value} (h : Bx W b v) : Bx (W.setCell ⟨b, 0, none⟩ u) b u := ⟨World.cell?_setCell_same _ _ _ h.1, by rw [World.frozen?_setCell]; exact h.2⟩
theorem Bx.far {W : World} {b k : Nat} {v u : Value} (h : Bx W b v) (hk : k ≠ b) : Bx (W.setCell ⟨k, 0, none⟩ u) b v := ⟨by rw [World.cell?_setCell_other _ _ _ _ (fun e => hk (congrArg Addr.block e))]; exact h.1, by rw [World.frozen?_setCell]; exact h.2⟩
theorem Bx.own {W W' : World} {b : Nat} {v : Value} {row : Option Nat} (h : Bx W b v) (hg : W.grownBy W' row) (hr : ∀ r, row = some r → ∃ o : Obj, W.heap[r]? = some o ∧ o.isCells = false) : Bx W' b v :=
  ⟨cell_kept h.1 hg hr, (frozen_kept h.1 hg hr).trans h.2⟩
theorem Bx.grown {W W' : World} {b : Nat} {v : Value} {row : Option Nat} (h : Bx W b v) (hg : W.grownBy W' row) (hne : row ≠ some b) : Bx W' b v := by
  have := grown_box hg h.1 hne
  exact ⟨this.1, this.2.trans h.2⟩

/-- The loop's state: the marks so far, and the results' cells. -/
structure It (w : World) (pre : List Key) (W : World) (ms : CL) (a : Option Addr) (c : Nat) : Prop where
  rd : rdsO pre = some ms
  x4 : Bx W (w.heap.size + 2) (.slice a ms.length c)
  x2 : Bx W w.heap.size (.slice none 0 0)
  x3 : Bx W (w.heap.size + 1) (.int .i64 0)
  row : W.ownsRow (w.heap.size + 6) 46 2 (.slice a ms.length c) ms.length (pm ms)
  top : w.heap.size + 6 ≤ W.heap.size
  gr : Gr w W
def Ip (w : World) (pre : List Key) (W : World) : Prop := ∃ ms a c, It w pre W ms a c
/-- Left: what is read is no mark. -/
def Ix (w : World) (c : Code) (pre : List Key) (W : World) : Prop := c = .ret ∧ rdsO pre = none ∧ Bx W w.heap.size (.slice none 0 0) ∧ Bx W (w.heap.size + 1) (.int .i64 3) ∧ Gr w W
theorem own_blk {w : World} {base e n : Nat} {v : Value} {xs : List Value} (h : w.ownsRow base e 2 v n xs) : ∀ k, v.ownBlock = some k → base ≤ k ∧ ∃ o : Obj, w.heap[k]? = some o ∧ o.isCells = true := fun k e => by
  obtain ⟨o, ho, hc, hb⟩ := own_not h e
  exact ⟨hb, o, ho, hc⟩
theorem Ip.own {w : World} {B : Nat} (hB : w.heap.size ≤ B) : OwnFrom B (Ip w) := by
  rintro pre X Y row ⟨ms, a, c, h⟩ hg hr
  have hrow : ∀ r, row = some r → ∃ o : Obj, X.heap[r]? = some o ∧ o.isCells = false := fun r e => (hr r e).2
  refine ⟨ms, a, c, h.rd, h.x4.own hg hrow, h.x2.own hg hrow, h.x3.own hg hrow, h.row.kept hg ?_, Nat.le_trans h.top hg.size, h.gr.grown hg fun k e => Nat.le_trans hB (hr k e).1⟩
  cases hv : (Value.slice a ms.length c).ownBlock with
  | none => exact .inl rfl
  | some b =>
    right
    intro e
    obtain ⟨o, ho, hc, _⟩ := own_not h.row hv
    obtain ⟨o', ho', hc'⟩ := hrow b e.symm
    rw [ho] at ho'
    cases ho'
    rw [hc] at hc'
    cases hc'
theorem Ix.own {w : World} {B : Nat} (hB : w.heap.size ≤ B) (c : Code) : OwnFrom B (Ix w c) := by
  rintro pre X Y row ⟨h0, h1, h2, h3, h4⟩ hg hr
  have hrow : ∀ r, row = some r → ∃ o : Obj, X.heap[r]? = some o ∧ o.isCells = false := fun r e => (hr r e).2
  exact ⟨h0, h1, h2.own hg hrow, h3.own hg hrow, h4.grown hg fun k e => Nat.le_trans hB (hr k e).1⟩
theorem Ip.wb {w : World} {pre : List Key} {A B : World} (h : Ip w pre A) (k : WbS (w.heap.size + 3) A B) : Ip w pre B := by
  obtain ⟨t, u, hu, rfl⟩ := k
  obtain ⟨ms, a, c, h⟩ := h
  have hg : A.grownBy (A.setCell ⟨w.heap.size + 3, 0, none⟩ (.string t)) (some (w.heap.size + 3)) := ((Wr.refl _ A).set 0 _ : Wr _ A _)
  refine ⟨ms, a, c, h.rd, h.x4.far (by omega), h.x2.far (by omega), h.x3.far (by omega), h.row.kept hg ?_, by have := h.top; simpa using this, h.gr.setCell (p := ⟨w.heap.size + 3, 0, none⟩) (by dsimp only; omega) _⟩
  cases hv : (Value.slice a ms.length c).ownBlock with
  | none => exact .inl rfl
  | some b =>
    right
    intro e
    obtain ⟨hb, _⟩ := own_blk h.row b hv
    cases e
    omega
theorem wpListIn_app_pairR {F : Fence} {n : Nat} {ops : Array Oper} {rest : List Oper} {o : Oper} {a : Act} {Q : Exit → Act → World → Prop} (hgd : o.guard = none) (s x : Operand)
    (ho : o.op = .call { callee := .builtin .append, args := #[s, x], argTypes := #[22, 22] })
    {base : Nat} {w : World} (v : Value) (ms : CL) (hs : a.eval s = v) (hown : w.ownsRow base 46 2 v ms.length (pm ms)) (hb : base ≤ w.heap.size)
    (g : Nat) (p q : Int) (hx : a.eval x = .slice (some ⟨g, 0, none⟩) 1 1) (hg : w.cell? ⟨g, 0, none⟩ = some (.int .i64 p) ∧ w.cell? ⟨g, 1, none⟩ = some (.int .i64 q)) (hk : ms.length < 999999)
    (h : ∀ a' c' w', w'.ownsRow base 46 2 (.slice a' (ms.length + 1) c') (ms.length + 1) (pm (ms ++ [(p, q)])) → w.grownBy w' v.ownBlock → wpListIn F n Tryd.prog ops Q rest (a.put o.dst (.slice a' (ms.length + 1) c')) w') : wpListIn F n Tryd.prog ops Q (o :: rest) a w := by
  obtain ⟨i0, hi, hz0, hz1, hz2⟩ := info_pair (P := Tryd.prog) (e := 46) (by kernel_rfl)
  refine wpListIn_append_own w hgd s x 22 ho base 46 i0 _ 2 16 Tryd.underlying22 hi hz0 hz1 hz2 rfl (by decide) v ms.length (pm ms) hs hown ⟨g, 0, none⟩ 1 1 [.int .i64 p, .int .i64 q] hx rfl ?_ ?_ (by unfold maxLen; omega) (by omega) hb ?_
  · intro j u hu
    rw [add_flat rfl]
    match j, hu with
    | 0, hu => simp at hu; subst hu; exact hg.1
    | 1, hu => simp at hu; subst hu; exact hg.2
    | j + 2, hu => simp at hu
  · intro u hu
    simp at hu
    rcases hu with rfl | rfl <;> rfl
  · intro v' w' h1 h2 _
    have hv := h1.2
    rcases hv with ⟨_, hz⟩ | ⟨g', cap, cur, rfl, _⟩
    · omega
    · refine h _ _ w' ?_ h2
      rw [pm_append]
      exact h1
/-- One round's end. -/
theorem Ip.step {w W w3 w5 : World} {pre : List Key} {x : Key} {ms : CL} {a : Option Addr} {c : Nat} {a' : Option Addr} {c' : Nat} {p q : Int} (g : Gr W w3) (h : It w pre W ms a c)
    (hO : w5.ownsRow (w.heap.size + 6) 46 2 (.slice a' (ms.length + 1) c') (ms.length + 1) (pm (ms ++ [(p, q)]))) (hG : w3.grownBy w5 (Value.slice a ms.length c).ownBlock) (hx : rdO x = some (p, q)) :
    KeepsOthers W (w5.setCell ⟨w.heap.size + 2, 0, none⟩ (.slice a' (ms.length + 1) c')) ∧ Kb (fun k => k = w.heap.size + 3 ∨ k = w.heap.size + 4 ∨ k = w.heap.size + 5) W (w5.setCell ⟨w.heap.size + 2, 0, none⟩ (.slice a' (ms.length + 1) c')) ∧ Ip w (pre ++ [x]) (w5.setCell ⟨w.heap.size + 2, 0, none⟩ (.slice a' (ms.length + 1) c')) := by
  have hrow := own_blk h.row
  have far : ∀ b, b < w.heap.size + 6 → (Value.slice a ms.length c).ownBlock ≠ some b := fun b hb e => by have := (hrow b e).1; omega
  have hgg : w5.grownBy (w5.setCell ⟨w.heap.size + 2, 0, none⟩ (.slice a' (ms.length + 1) c')) (some (w.heap.size + 2)) := ((Wr.refl _ w5).set 0 _ : Wr _ w5 _)
  have e1 : (ms ++ [(p, q)]).length = ms.length + 1 := by simp
  refine ⟨((KeepsOthers.gr g).trans (KeepsOthers.of_grownBy hG fun j o e ho => ?_)).trans (KeepsOthers.setCell _ _ _), ?_, ms ++ [(p, q)], a', c', ?_, ?_, ?_, ?_, ?_, ?_, ?_⟩
  · obtain ⟨_, o2, ho2, hc2⟩ := hrow j e
    have := Below.block g j (Array.getElem?_eq_some_iff.1 ho2).1
    rw [this, ho2] at ho
    cases ho
    exact hc2
  · intro p u hp e
    have hpb : p.block < w.heap.size + 6 := by rcases hp with h | h | h <;> omega
    have hne : (⟨w.heap.size + 2, 0, none⟩ : Addr) ≠ p := by
      rintro rfl
      rcases hp with h | h | h <;> (dsimp only at h; omega)
    have k3 := g.cell e
    have hb5 := hG.block p.block (World.block_lt_of_cell? w3 _ k3) (fun e => far _ hpb e.symm)
    rw [World.cell?_setCell_other _ _ _ _ hne, World.frozen?_setCell]
    exact ⟨(World.cell?_of_block hb5).trans k3, (World.frozen?_of_block hb5).trans (Below.frozen g (World.block_lt_of_cell? W _ e))⟩
  · rw [rdsO_snoc _ _ _ h.rd, hx]; rfl
  · rw [e1]; exact ((h.x4.gr g).grown hG (far _ (by omega))).put
  · exact ((h.x2.gr g).grown hG (far _ (by omega))).far (by omega)
  · exact ((h.x3.gr g).grown hG (far _ (by omega))).far (by omega)
  · rw [e1]
    refine hO.kept hgg ?_
    cases hv : (Value.slice a' (ms.length + 1) c').ownBlock with
    | none => exact .inl rfl
    | some k =>
      right
      intro e
      obtain ⟨hb, _⟩ := own_blk hO k hv
      cases e
      omega
  · have h1 := g.size
    have h2 := hG.size
    have := h.top
    simp
    omega
  · refine Gr.setCell ?_ (p := ⟨w.heap.size + 2, 0, none⟩) (by dsimp only; omega) _
    exact (h.gr.trans g).grown hG fun k e => by have := (hrow k e).1; omega
/-- One round that leaves. -/
theorem Ix.leave {w W w3 : World} {pre : List Key} {x : Key} {ms : CL} {a : Option Addr} {c : Nat} (g : Gr W w3) (h : It w pre W ms a c) (hx : rdO x = none) :
    KeepsOthers W ((w3.setCell ⟨w.heap.size, 0, none⟩ (.slice none 0 0)).setCell ⟨w.heap.size + 1, 0, none⟩ (.int .i64 3)) ∧ Ix w .ret (pre ++ [x]) ((w3.setCell ⟨w.heap.size, 0, none⟩ (.slice none 0 0)).setCell ⟨w.heap.size + 1, 0, none⟩ (.int .i64 3)) := by
  refine ⟨((KeepsOthers.gr g).trans (KeepsOthers.setCell _ _ _)).trans (KeepsOthers.setCell _ _ _), rfl, ?_, ?_, ?_, ?_⟩
  · rw [rdsO_snoc _ _ _ h.rd, hx]; rfl
  · exact (h.x2.gr g).put.far (by omega)
  · exact ((h.x3.gr g).far (by omega)).put
  · exact ((h.gr.trans g).setCell (p := ⟨w.heap.size, 0, none⟩) (by dsimp only; omega) _).setCell (p := ⟨w.heap.size + 1, 0, none⟩) (by dsimp only; omega) _
theorem rd_ownM {w : World} {base e : Nat} {v : Value} {ms : CL} (h : w.ownsRow base e 2 v ms.length (pm ms)) : ∃ a c, v = .slice a ms.length c ∧ ms.length ≤ c ∧ c ≤ maxLen ∧ RdM w a ms.length (px ms) (py ms) := by
  have h0 := h
  obtain ⟨hl, hv⟩ := h
  rcases hv with ⟨rfl, hz⟩ | ⟨g, cap, cur, rfl, hb, hg, hnc, hcm, hcs, htake⟩
  · rw [hz]
    exact ⟨none, 0, rfl, Nat.le_refl _, by unfold maxLen; omega, .inl rfl⟩
  · refine ⟨_, _, rfl, hnc, hcm, .inr ⟨g, 0, rfl, fun i hi => ?_⟩⟩
    obtain ⟨p0, p1⟩ := pm_at ms i hi
    have c0 := h0.cells (g := g) rfl _ _ p0
    have c1 := h0.cells (g := g) rfl _ _ p1
    rw [add_flat rfl] at c0 c1
    exact ⟨c0, by rw [Nat.add_assoc]; exact c1⟩
end Go.Proofs.YtdlbgelidcfmiaaDoor
