import Derived.Sort.CutIn
import Derived.Test.YtehdemcfeoiecaaGreatDoorK17
import Derived.Test.YtehdemcfeoiecaaGreatDoorK18
set_option maxHeartbeats 64000000
set_option maxRecDepth 100000
namespace Go.Proofs.YtehdemcfeoiecaaGreatDoor
open Go.RowKit Go.Firn Go.Firn.Tb
attribute [local go_sem] Oper.semAt_some
attribute [local simp] wide_fn
def RetPl (r : Option (List Wd × Int)) (w : World) (e : Ending) (w' : World) : Prop := ∃ a n c W ok, e = .returned (.tuple #[.slice a n c, .int .i64 W, .bool ok]) ∧ Gr w w' ∧ (match r with
 | some x => ok = true ∧ W = x.2 ∧ n = x.1.length ∧ Rd33 w' a n c (x.1.map stp)
 | none => ok = false)
def cutH (w : World) (n : Nat) : World := { w with heap := w.heap.extract 0 n }
theorem cutH_gr {w : World} {n : Nat} (h : n ≤ w.heap.size) : (cutH w n).heap.size = n ∧ Gr (cutH w n) w := by
 have e : (cutH w n).heap.size = n := by simp [cutH]; omega
 refine ⟨e, rfl, rfl, rfl, by rw [e]; exact h, fun k hk => ?_⟩
 rw [e] at hk
 show _ = (w.heap.extract 0 n)[k]?
 rw [Array.getElem?_extract]
 simp
 omega
def Bx (W : World) (b : Nat) (v : Value) : Prop := W.cell? ⟨b, 0, none⟩ = some v ∧ W.frozen? ⟨b, 0, none⟩ = false
theorem Bx.gr {W W' : World} {b : Nat} {v : Value} (h : Bx W b v) (g : Gr W W') : Bx W' b v := ⟨g.cell h.1, (Below.frozen g (World.block_lt_of_cell? W _ h.1)).trans h.2⟩
theorem Bx.put {W : World} {b : Nat} {v u : Value} (h : Bx W b v) : Bx (W.setCell ⟨b, 0, none⟩ u) b u := ⟨World.cell?_setCell_same _ _ _ h.1, by rw [World.frozen?_setCell]; exact h.2⟩
theorem Bx.far {W : World} {b k : Nat} {v u : Value} (h : Bx W b v) (hk : k ≠ b) : Bx (W.setCell ⟨k, 0, none⟩ u) b v := ⟨by rw [World.cell?_setCell_other _ _ _ _ (fun e => hk (congrArg Addr.block e))]; exact h.1, by rw [World.frozen?_setCell]; exact h.2⟩
theorem Bx.own {W W' : World} {b : Nat} {v : Value} {row : Option Nat} (h : Bx W b v) (hg : W.grownBy W' row) (hr : ∀ r, row = some r → ∃ o : Obj, W.heap[r]? = some o ∧ o.isCells = false) : Bx W' b v :=
 ⟨cell_kept h.1 hg hr, (frozen_kept h.1 hg hr).trans h.2⟩
theorem grown_box {A B : World} {row : Option Nat} {b : Nat} {v : Value} (hg : A.grownBy B row) (hc : A.cell? ⟨b, 0, none⟩ = some v) (hne : row ≠ some b) : B.cell? ⟨b, 0, none⟩ = some v ∧ B.frozen? ⟨b, 0, none⟩ = A.frozen? ⟨b, 0, none⟩ := by
 have hlt := World.block_lt_of_cell? A _ hc
 have e := hg.block b hlt (fun e => hne e.symm)
 exact ⟨(World.cell?_of_block e).trans hc, World.frozen?_of_block e⟩
theorem Bx.grown {W W' : World} {b : Nat} {v : Value} {row : Option Nat} (h : Bx W b v) (hg : W.grownBy W' row) (hne : row ≠ some b) : Bx W' b v := by
 have := grown_box hg h.1 hne
 exact ⟨this.1, this.2.trans h.2⟩
theorem KeepsOthers.gr {W W' : World} (g : Gr W W') : KeepsOthers W W' := KeepsOthers.of_grownBy (grows' g) (fun _ _ e => by cases e)
theorem rows_gr {w w' : World} {base e n k : Nat} {v : Value} {xs : List Value} (h : w.ownsRow base e n v k xs) (g : Gr w w') : w'.ownsRow base e n v k xs :=
 h.kept (row := none) ⟨g.os, g.tape, g.output, Gr.size g, fun k hk _ => Below.block g k hk⟩ (by cases v.ownBlock <;> simp)
theorem heap_gr {W W' : World} {D : Nat} {o : Obj} (h : W.heap[D]? = some o) (g : Gr W W') : W'.heap[D]? = some o :=
 (Below.block g D (Array.getElem?_eq_some_iff.1 h).1).trans h
theorem own_not {w : World} {base e m n : Nat} {v : Value} {xs : List Value} (h : w.ownsRow base e m v n xs) {b : Nat} (hb : v.ownBlock = some b) : ∃ o : Obj, w.heap[b]? = some o ∧ o.isCells = true ∧ base ≤ b := by
 obtain ⟨_, hv⟩ := h
 rcases hv with ⟨rfl, _⟩ | ⟨g, cap, cur, rfl, hbg, hg, _⟩
 ·cases hb
 cases hb
 exact ⟨_, hg, rfl, hbg⟩
theorem own_blk {w : World} {base e m n : Nat} {v : Value} {xs : List Value} (h : w.ownsRow base e m v n xs) : ∀ k, v.ownBlock = some k → base ≤ k ∧ ∃ o : Obj, w.heap[k]? = some o ∧ o.isCells = true := fun k e => by
 obtain ⟨o, ho, hc, hb⟩ := own_not h e
 exact ⟨hb, o, ho, hc⟩
structure Ib (w : World) (tv : Value) (W : World) (L : List Tri) (pl : List Int) (a : Option Addr) (c : Nat) (a' : Option Addr) (c' : Nat) : Prop where
 x0 : W.cell? ⟨w.heap.size, 0, none⟩ = some tv
 x1 : Bx W (w.heap.size + 1) (.slice none 0 0)
 x2 : Bx W (w.heap.size + 2) (.int .i64 0)
 x3 : Bx W (w.heap.size + 3) (.bool false)
 x4 : Bx W (w.heap.size + 4) (.slice a L.length c)
 x5 : Bx W (w.heap.size + 5) (.slice a' pl.length c')
 row : W.ownsRow (w.heap.size + 9) 103 3 (.slice a L.length c) L.length (pk3 L)
 rowp : W.ownsRow (w.heap.size + 9) 3 1 (.slice a' pl.length c') pl.length (pl.map (Value.int .i64))
 top : w.heap.size + 9 ≤ W.heap.size
 gr : Gr w W
def Ip (w : World) (tv : Value) (ws : List Int) (pre : List Key) (W : World) : Prop := ∃ ms pl a c a' c', planQ ws pre [] = some (ms, pl) ∧ Ib w tv W (ms.map stp) pl a c a' c'
def Ix (w : World) (ws : List Int) (c : Code) (pre : List Key) (W : World) : Prop := c = .ret ∧ planQ ws pre [] = none ∧ Bx W (w.heap.size + 1) (.slice none 0 0) ∧ Bx W (w.heap.size + 2) (.int .i64 0) ∧ Bx W (w.heap.size + 3) (.bool false) ∧ Gr w W
theorem kept_own {X Y : World} {row : Option Nat} {base e m n : Nat} {v : Value} {xs : List Value} (h : X.ownsRow base e m v n xs) (hg : X.grownBy Y row) (hrow : ∀ r, row = some r → ∃ o : Obj, X.heap[r]? = some o ∧ o.isCells = false) : Y.ownsRow base e m v n xs := by
 refine h.kept hg ?_
 cases hv : v.ownBlock with
 | none => exact .inl rfl
 | some b =>
  right
  intro e
  obtain ⟨o, ho, hc, _⟩ := own_not h hv
  obtain ⟨o', ho', hc'⟩ := hrow b e.symm
  rw [ho] at ho'
  cases ho'
  rw [hc] at hc'
  cases hc'
theorem Ib.own {w : World} {tv : Value} {X Y : World} {L : List Tri} {pl : List Int} {a : Option Addr} {c : Nat} {a' : Option Addr} {c' : Nat} (h : Ib w tv X L pl a c a' c') {row : Option Nat} (hg : X.grownBy Y row) (hrow : ∀ r, row = some r → ∃ o : Obj, X.heap[r]? = some o ∧ o.isCells = false) (hb : ∀ r, row = some r → w.heap.size ≤ r) : Ib w tv Y L pl a c a' c' :=
 ⟨cell_kept h.x0 hg hrow, h.x1.own hg hrow, h.x2.own hg hrow, h.x3.own hg hrow, h.x4.own hg hrow, h.x5.own hg hrow, kept_own h.row hg hrow, kept_own h.rowp hg hrow, Nat.le_trans h.top hg.size, h.gr.grown hg hb⟩
theorem Ip.own {w : World} {tv : Value} {ws : List Int} {B : Nat} (hB : w.heap.size ≤ B) : OwnFrom B (Ip w tv ws) := by
 rintro pre X Y row ⟨ms, pl, a, c, a', c', hp, h⟩ hg hr
 exact ⟨ms, pl, a, c, a', c', hp, h.own hg (fun r e => (hr r e).2) fun k e => Nat.le_trans hB (hr k e).1⟩
theorem Ib.gr' {w : World} {tv : Value} {X Y : World} {L : List Tri} {pl : List Int} {a : Option Addr} {c : Nat} {a' : Option Addr} {c' : Nat} (h : Ib w tv X L pl a c a' c') (g : Gr X Y) : Ib w tv Y L pl a c a' c' :=
 h.own (grows' g) (fun r e => by cases e) (fun r e => by cases e)
theorem Ix.own {w : World} {ws : List Int} {B : Nat} (hB : w.heap.size ≤ B) (c : Code) : OwnFrom B (Ix w ws c) := by
 rintro pre X Y row ⟨h0, h1, h2, h3, h4, h5⟩ hg hr
 have hrow : ∀ r, row = some r → ∃ o : Obj, X.heap[r]? = some o ∧ o.isCells = false := fun r e => (hr r e).2
 exact ⟨h0, h1, h2.own hg hrow, h3.own hg hrow, h4.own hg hrow, h5.grown hg fun k e => Nat.le_trans hB (hr k e).1⟩
theorem row_far {W : World} {base e m n b : Nat} {v u : Value} {xs : List Value} (h : W.ownsRow base e m v n xs) (hb : b < base) : (W.setCell ⟨b, 0, none⟩ u).ownsRow base e m v n xs := by
 have hgg : W.grownBy (W.setCell ⟨b, 0, none⟩ u) (some b) := ((Wr.refl _ W).set 0 _ : Wr _ W _)
 refine h.kept hgg ?_
 cases hv : v.ownBlock with
 | none => exact .inl rfl
 | some k =>
  right
  intro e
  obtain ⟨hk, _⟩ := own_blk h k hv
  cases e
  omega
theorem Ib.far {w : World} {tv : Value} {A : World} {L : List Tri} {pl : List Int} {a : Option Addr} {c : Nat} {a' : Option Addr} {c' : Nat} (h : Ib w tv A L pl a c a' c') {k : Nat} (hk : w.heap.size + 6 ≤ k ∧ k < w.heap.size + 9) (u : Value) : Ib w tv (A.setCell ⟨k, 0, none⟩ u) L pl a c a' c' := by
 refine ⟨?_, h.x1.far (by omega), h.x2.far (by omega), h.x3.far (by omega), h.x4.far (by omega), h.x5.far (by omega), row_far h.row (by omega), row_far h.rowp (by omega), by have := h.top; simpa using this, h.gr.setCell (p := ⟨k, 0, none⟩) (by dsimp only; omega) _⟩
 rw [World.cell?_setCell_other _ _ _ _ (fun e => by have := congrArg Addr.block e; dsimp only at this; omega)]
 exact h.x0
theorem Ip.wb {w : World} {tv : Value} {ws : List Int} {pre : List Key} {A B : World} (h : Ip w tv ws pre A) (k : WbS (w.heap.size + 6) A B) : Ip w tv ws pre B := by
 obtain ⟨t, u, hu, rfl⟩ := k
 obtain ⟨ms, pl, a, c, a', c', hp, h⟩ := h
 exact ⟨ms, pl, a, c, a', c', hp, h.far (by omega) _⟩
def Kw (w : World) (W W' : World) : Prop := KeepsOthers W W' ∧ Kb (fun k => k = w.heap.size + 6 ∨ k = w.heap.size + 7 ∨ k = w.heap.size + 8) W W'
theorem Kw.trans {w A B C : World} (h : Kw w A B) (k : Kw w B C) : Kw w A C := ⟨h.1.trans k.1, h.2.trans k.2⟩
theorem Kw.gr {w A B : World} (g : Gr A B) : Kw w A B := ⟨KeepsOthers.gr g, Kb.gr g⟩
theorem Kw.set {w A : World} {k : Nat} (hk : k < w.heap.size + 6) (v : Value) : Kw w A (A.setCell ⟨k, 0, none⟩ v) := ⟨KeepsOthers.setCell _ _ _, fun p u hp e => by
 have hne : (⟨k, 0, none⟩ : Addr) ≠ p := by
  rintro rfl
  rcases hp with h | h | h <;> (dsimp only at h; omega)
 rw [World.cell?_setCell_other _ _ _ _ hne, World.frozen?_setCell]
 exact ⟨e, rfl⟩⟩
theorem Kw.grown {w A B : World} {e m n : Nat} {v : Value} {xs : List Value} (h : A.ownsRow (w.heap.size + 9) e m v n xs) (g : A.grownBy B v.ownBlock) : Kw w A B := by
 refine ⟨KeepsOthers.of_grownBy g fun j o ej ho => ?_, fun p u hp eu => ?_⟩
 ·obtain ⟨_, o2, ho2, hc2⟩ := own_blk h j ej
  rw [ho2] at ho
  cases ho
  exact hc2
 have hb := g.block p.block (World.block_lt_of_cell? A _ eu) (fun ep => by have := (own_blk h _ ep.symm).1; rcases hp with q | q | q <;> omega)
 exact ⟨(World.cell?_of_block hb).trans eu, World.frozen?_of_block hb⟩
theorem own_other {w w' : World} {v v2 : Value} {base base2 e e2 m m2 n n2 : Nat} {xs X : List Value} (h : w.ownsRow base e m v n xs) (h2 : w.ownsRow base2 e2 m2 v2 n2 X) (hne : e ≠ e2) (g : w.grownBy w' v2.ownBlock) : w'.ownsRow base e m v n xs := by
 refine h.kept g ?_
 obtain ⟨_, hv⟩ := h
 obtain ⟨_, hv2⟩ := h2
 rcases hv with ⟨rfl, _⟩ | ⟨b, cap, cur, rfl, _, hg, _⟩
 ·exact .inl rfl
 rcases hv2 with ⟨rfl, _⟩ | ⟨b2, cap2, cur2, rfl, _, hg2, _⟩
 ·exact .inr (by simp [Value.ownBlock])
 refine .inr fun k => ?_
 simp only [Value.ownBlock, Option.some.injEq] at k
 subst k
 rw [hg] at hg2
 simp only [Option.some.injEq, Obj.cells.injEq] at hg2
 exact hne hg2.2.1
theorem set_other {w : World} {W : World} {k : Nat} {tv u : Value} (h : W.cell? ⟨w.heap.size, 0, none⟩ = some tv) (hk : w.heap.size < k) : (W.setCell ⟨k, 0, none⟩ u).cell? ⟨w.heap.size, 0, none⟩ = some tv := by
 rw [World.cell?_setCell_other _ _ _ _ (fun e => by have := congrArg Addr.block e; dsimp only at this; omega)]
 exact h
theorem Ib.stepA {w : World} {tv : Value} {A B : World} {L : List Tri} {pl : List Int} {a : Option Addr} {c : Nat} {a' : Option Addr} {c' : Nat} {r : Tri} {a2 : Option Addr} {c2 : Nat} (h : Ib w tv A L pl a c a' c')
  (hO : B.ownsRow (w.heap.size + 9) 103 3 (.slice a2 (L.length + 1) c2) (L.length + 1) (pk3 (L ++ [r]))) (hG : A.grownBy B (Value.slice a L.length c).ownBlock) :
  Ib w tv (B.setCell ⟨w.heap.size + 4, 0, none⟩ (.slice a2 (L.length + 1) c2)) (L ++ [r]) pl a2 c2 a' c' ∧ Kw w A (B.setCell ⟨w.heap.size + 4, 0, none⟩ (.slice a2 (L.length + 1) c2)) := by
 have hrow := own_blk h.row
 have far : ∀ b, b < w.heap.size + 9 → (Value.slice a L.length c).ownBlock ≠ some b := fun b hb e => by have := (hrow b e).1; omega
 have e1 : (L ++ [r]).length = L.length + 1 := by simp
 refine ⟨⟨?_, ?_, ?_, ?_, ?_, ?_, ?_, ?_, ?_, ?_⟩, (Kw.grown h.row hG).trans (Kw.set (by omega) _)⟩
 ·exact set_other (grown_box hG h.x0 (far _ (by omega))).1 (by omega)
 ·exact (h.x1.grown hG (far _ (by omega))).far (by omega)
 ·exact (h.x2.grown hG (far _ (by omega))).far (by omega)
 ·exact (h.x3.grown hG (far _ (by omega))).far (by omega)
 ·rw [e1]; exact (h.x4.grown hG (far _ (by omega))).put
 ·exact (h.x5.grown hG (far _ (by omega))).far (by omega)
 ·rw [e1]; exact row_far hO (by omega)
 ·exact row_far (own_other h.rowp h.row (by decide) hG) (by omega)
 ·have h2 := hG.size
  have := h.top
  simp
  omega
 refine Gr.setCell ?_ (p := ⟨w.heap.size + 4, 0, none⟩) (by dsimp only; omega) _
 exact h.gr.grown hG fun k e => by have := (hrow k e).1; omega
theorem Ib.stepB {w : World} {tv : Value} {A B : World} {L : List Tri} {pl q : List Int} {a : Option Addr} {c : Nat} {a' : Option Addr} {c' : Nat} {a2 : Option Addr} {c2 : Nat} (h : Ib w tv A L pl a c a' c')
  (hO : B.ownsRow (w.heap.size + 9) 3 1 (.slice a2 q.length c2) q.length (q.map (Value.int .i64))) (hG : A.grownBy B (Value.slice a' pl.length c').ownBlock) :
  Ib w tv (B.setCell ⟨w.heap.size + 5, 0, none⟩ (.slice a2 q.length c2)) L q a c a2 c2 := by
 have hrow := own_blk h.rowp
 have far : ∀ b, b < w.heap.size + 9 → (Value.slice a' pl.length c').ownBlock ≠ some b := fun b hb e => by have := (hrow b e).1; omega
 refine ⟨?_, ?_, ?_, ?_, ?_, ?_, ?_, ?_, ?_, ?_⟩
 ·exact set_other (grown_box hG h.x0 (far _ (by omega))).1 (by omega)
 ·exact (h.x1.grown hG (far _ (by omega))).far (by omega)
 ·exact (h.x2.grown hG (far _ (by omega))).far (by omega)
 ·exact (h.x3.grown hG (far _ (by omega))).far (by omega)
 ·exact (h.x4.grown hG (far _ (by omega))).far (by omega)
 ·exact (h.x5.grown hG (far _ (by omega))).put
 ·exact row_far (own_other h.row h.rowp (by decide) hG) (by omega)
 ·exact row_far hO (by omega)
 ·have h2 := hG.size
  have := h.top
  simp
  omega
 refine Gr.setCell ?_ (p := ⟨w.heap.size + 5, 0, none⟩) (by dsimp only; omega) _
 exact h.gr.grown hG fun k e => by have := (hrow k e).1; omega
theorem Kw.stepB {w : World} {tv : Value} {A B : World} {L : List Tri} {pl : List Int} {a : Option Addr} {c : Nat} {a' : Option Addr} {c' : Nat} (h : Ib w tv A L pl a c a' c') (hG : A.grownBy B (Value.slice a' pl.length c').ownBlock) (v : Value) : Kw w A (B.setCell ⟨w.heap.size + 5, 0, none⟩ v) :=
 (Kw.grown h.rowp hG).trans (Kw.set (by omega) _)
def lv (w W : World) : World := ((W.setCell ⟨w.heap.size + 1, 0, none⟩ (.slice none 0 0)).setCell ⟨w.heap.size + 2, 0, none⟩ (.int .i64 0)).setCell ⟨w.heap.size + 3, 0, none⟩ (.bool false)
theorem leave {w W : World} {ws : List Int} {pre : List Key} {u1 u2 u3 : Value} (hn : planQ ws pre [] = none) (x1 : Bx W (w.heap.size + 1) u1) (x2 : Bx W (w.heap.size + 2) u2) (x3 : Bx W (w.heap.size + 3) u3) (g : Gr w W) : Ix w ws .ret pre (lv w W) := by
 refine ⟨rfl, hn, ?_, ?_, ?_, ?_⟩
 ·exact (x1.put.far (by omega)).far (by omega)
 ·exact ((x2.far (by omega)).put).far (by omega)
 ·exact ((x3.far (by omega)).far (by omega)).put
 exact ((g.setCell (p := ⟨w.heap.size + 1, 0, none⟩) (by dsimp only; omega) _).setCell (p := ⟨w.heap.size + 2, 0, none⟩) (by dsimp only; omega) _).setCell (p := ⟨w.heap.size + 3, 0, none⟩) (by dsimp only; omega) _
theorem leave_keeps {w A W : World} (k : Kw w A W) : KeepsOthers A (lv w W) := ((k.1.trans (KeepsOthers.setCell _ _ _)).trans (KeepsOthers.setCell _ _ _)).trans (KeepsOthers.setCell _ _ _)
theorem wpListIn_app_triR {F : Fence} {n : Nat} {ops : Array Oper} {rest : List Oper} {o : Oper} {a : Act} {Q : Exit → Act → World → Prop} (hgd : o.guard = none) (s x : Operand)
  (ho : o.op = .call { callee := .builtin .append, args := #[s, x], argTypes := #[83, 83] })
  {base : Nat} {w : World} (v : Value) (L : List Tri) (hs : a.eval s = v) (hown : w.ownsRow base 103 3 v L.length (pk3 L)) (hb : base ≤ w.heap.size)
  (g : Nat) (r : Tri) (hx : a.eval x = .slice (some ⟨g, 0, none⟩) 1 1) (hg : w.cell? ⟨g, 0, none⟩ = some (.int .i64 r.1) ∧ w.cell? ⟨g, 1, none⟩ = some (.int .i64 r.2.1) ∧ w.cell? ⟨g, 2, none⟩ = some (.int .i64 r.2.2)) (hk : L.length < 999999)
  (h : ∀ a' c' w', w'.ownsRow base 103 3 (.slice a' (L.length + 1) c') (L.length + 1) (pk3 (L ++ [r])) → w.grownBy w' v.ownBlock → wpListIn F n Tryz.prog ops Q rest (a.put o.dst (.slice a' (L.length + 1) c')) w') : wpListIn F n Tryz.prog ops Q (o :: rest) a w := by
 obtain ⟨i0, hi, hz0, hz1, hz2⟩ := info_step
 refine wpListIn_append_own w hgd s x 83 ho base 103 i0 _ 3 24 Tryz.underlying83 hi hz0 hz1 hz2 rfl (by decide) v L.length (pk3 L) hs hown ⟨g, 0, none⟩ 1 1 (pk3 [r]) hx rfl ?_ ?_ (by unfold maxLen; omega) (by omega) hb ?_
 ·intro j u hu
  rw [add_flat rfl, Nat.zero_add]
  have e : pk3 [r] = [.int .i64 r.1, .int .i64 r.2.1, .int .i64 r.2.2] := rfl
  rw [e] at hu
  rcases j with _ | _ | _ | j
  ·cases hu; exact hg.1
  ·cases hu; exact hg.2.1
  ·cases hu; exact hg.2.2
  simp at hu
 ·intro u hu
  have e : pk3 [r] = [.int .i64 r.1, .int .i64 r.2.1, .int .i64 r.2.2] := rfl
  rw [e] at hu
  simp at hu
  rcases hu with rfl | rfl | rfl <;> rfl
 intro v' w' h1 h2 _
 have hv := h1.2
 rcases hv with ⟨_, hz⟩ | ⟨g', cap, cur, rfl, _⟩
 ·omega
 refine h _ _ w' ?_ h2
 rw [pk3_append]
 exact h1
theorem Bx.fin {W : World} {b D : Nat} {v : Value} (h : Bx W b v) (hd : W.heap[D]? = some (.deferred (some []))) : (W.putObj D (.deferred none)).cell? ⟨b, 0, none⟩ = some v :=
 (h.own (grownBy_putObj' W D _) (fun r er => by cases er; exact ⟨_, hd, rfl⟩)).1
theorem gr_put {w W : World} {D : Nat} (g : Gr w W) (hD : w.heap.size ≤ D) : Gr w (W.putObj D (.deferred none)) :=
 g.grown (grownBy_putObj' W D _) (fun k e => by cases e; exact hD)
theorem box_keep {A B : World} {row : Option Nat} {bx j k : Nat} {v u : Value} (h : A.cell? ⟨bx, j, none⟩ = some v) (g : A.grownBy B row) (hr : row ≠ some bx) (hk : k ≠ bx) : (B.setCell ⟨k, 0, none⟩ u).cell? ⟨bx, j, none⟩ = some v := by
 rw [World.cell?_setCell_other _ _ _ _ (fun e => hk (congrArg Addr.block e))]
 exact (World.cell?_of_block (g.block bx (World.block_lt_of_cell? A _ h) (fun e => hr e.symm))).trans h
theorem parse_not {x : Key} (hw : wdOf x = none) (w : World) (hT : Pow10 w) (hE : Errs w) (hx : x.length ≤ 1000000) : Calls Tryz.prog 87 #[.string (bA x)] w fun e w' => ∃ a b c, e = .returned (.tuple #[.agg #[.int .i64 a, .int .i64 b, .int .i64 c], .bool false]) ∧ Gr w w' := by
 refine (parse_any x w hT hE hx).mono ?_
 rintro e w' ⟨a, b, c, ok, rfl, g, h⟩
 rw [hw] at h
 subst h
 exact ⟨a, b, c, rfl, g⟩
theorem parse_yes {x : Key} {wd : Wd} (hw : wdOf x = some wd) (w : World) (hT : Pow10 w) (hE : Errs w) (hx : x.length ≤ 1000000) : Calls Tryz.prog 87 #[.string (bA x)] w fun e w' => e = .returned (.tuple #[.agg #[.int .i64 (stp wd).1, .int .i64 (stp wd).2.1, .int .i64 (stp wd).2.2], .bool true]) ∧ Gr w w' := by
 refine (parse_any x w hT hE hx).mono ?_
 rintro e w' ⟨a, b, c, ok, rfl, g, h⟩
 rw [hw] at h
 obtain ⟨rfl, h⟩ := h
 rw [← h]
 exact ⟨rfl, g⟩
theorem fin_no {w W : World} {D : Nat} {u1 u2 u3 : Value} (hw : w.heap.size + 9 ≤ D) (g : Gr w W) (x1 : Bx W (w.heap.size + 1) u1) (x2 : Bx W (w.heap.size + 2) u2) (x3 : Bx W (w.heap.size + 3) u3) (hd : W.heap[D]? = some (.deferred (some []))) :
  (lv w W).heap[D]? = some (.deferred (some [])) ∧ ((lv w W).putObj D (.deferred none)).cell? ⟨w.heap.size + 1, 0, none⟩ = some (.slice none 0 0) ∧ ((lv w W).putObj D (.deferred none)).cell? ⟨w.heap.size + 2, 0, none⟩ = some (.int .i64 0) ∧ ((lv w W).putObj D (.deferred none)).cell? ⟨w.heap.size + 3, 0, none⟩ = some (.bool false) ∧ Gr w ((lv w W).putObj D (.deferred none)) := by
 have h1 : (W.setCell ⟨w.heap.size + 1, 0, none⟩ (.slice none 0 0)).heap[D]? = some (.deferred (some [])) := (Below.heap_setCell _ _ _ _ (by dsimp only; omega)).trans hd
 have h2 : ((W.setCell ⟨w.heap.size + 1, 0, none⟩ (.slice none 0 0)).setCell ⟨w.heap.size + 2, 0, none⟩ (.int .i64 0)).heap[D]? = some (.deferred (some [])) := (Below.heap_setCell _ _ _ _ (by dsimp only; omega)).trans h1
 have h3 : (lv w W).heap[D]? = some (.deferred (some [])) := (Below.heap_setCell _ _ _ _ (by dsimp only; omega)).trans h2
 obtain ⟨_, _, y1, y2, y3, gg⟩ := leave (ws := []) (pre := [[]]) rfl x1 x2 x3 g
 exact ⟨h3, y1.fin h3, y2.fin h3, y3.fin h3, gr_put gg (by omega)⟩
def NoP (Q : Exit → Act → World → Prop) : Exit → Act → World → Prop
 | .panic _, _, _ => False
 | e, a, w => Q e a w
theorem NoP.out {Q : Exit → Act → World → Prop} {e : Exit} {a : Act} {w : World} (h : NoP Q e a w) : Q e a w := by
 cases e <;> first | exact h | exact h.elim
def Fs (w : World) (A B u : Value) (g : Nat) (w' : World) : Prop := (w'.cell? ⟨w.heap.size + 4, 0, none⟩ = some A ∧ w'.cell? ⟨w.heap.size + 5, 0, none⟩ = some B ∧ w'.cell? ⟨g, 0, none⟩ = some u) ∧ (∃ v, Bx w' (w.heap.size + 1) v) ∧ (∃ v, Bx w' (w.heap.size + 2) v) ∧ ∃ v, Bx w' (w.heap.size + 3) v
theorem Fs.set {w : World} {A B u : Value} {g : Nat} {w' : World} (h : Fs w A B u g w') (hg : w.heap.size + 9 ≤ g) {k : Nat} (hk : k = w.heap.size + 1 ∨ k = w.heap.size + 2 ∨ k = w.heap.size + 3) (x : Value) : Fs w A B u g (w'.setCell ⟨k, 0, none⟩ x) := by
 obtain ⟨⟨a, b, c⟩, ⟨v1, x1⟩, ⟨v2, x2⟩, v3, x3⟩ := h
 have oth : ∀ {b : Nat} {v : Value}, w'.cell? ⟨b, 0, none⟩ = some v → k ≠ b → (w'.setCell ⟨k, 0, none⟩ x).cell? ⟨b, 0, none⟩ = some v := fun hb hne => by
  rw [World.cell?_setCell_other _ _ _ _ (fun e => hne (congrArg Addr.block e))]; exact hb
 refine ⟨⟨oth a (by omega), oth b (by omega), oth c (by omega)⟩, ?_, ?_, ?_⟩
 ·by_cases e : k = w.heap.size + 1
  ·subst e; exact ⟨_, x1.put⟩
  exact ⟨_, x1.far e⟩
 ·by_cases e : k = w.heap.size + 2
  ·subst e; exact ⟨_, x2.put⟩
  exact ⟨_, x2.far e⟩
 by_cases e : k = w.heap.size + 3
 ·subst e; exact ⟨_, x3.put⟩
 exact ⟨_, x3.far e⟩
def lv3 (w W : World) (A : Value) (u : Int) : World := ((W.setCell ⟨w.heap.size + 1, 0, none⟩ A).setCell ⟨w.heap.size + 2, 0, none⟩ (.int .i64 u)).setCell ⟨w.heap.size + 3, 0, none⟩ (.bool true)
theorem rows_rd33 {w : World} {base e : Nat} {v : Value} {L : List Tri} (h : w.ownsRow base e 3 v L.length (pk3 L)) : ∃ a c, v = .slice a L.length c ∧ Rd33 w a L.length c L := by
 have h0 := h
 obtain ⟨hl, hv⟩ := h
 rcases hv with ⟨rfl, hz⟩ | ⟨g, cap, cur, rfl, hb, hg, hnc, hcm, hcs, htake⟩
 ·exact ⟨none, 0, by rw [hz], rfl, by omega, by omega, fun _ => rfl, .inl hz⟩
 refine ⟨_, _, rfl, rfl, hnc, by unfold maxLen at hcm; omega, (fun k => by cases k), .inr ⟨g, rfl, fun i x hi => ?_⟩⟩
 obtain ⟨p0, p1, p2⟩ := pk3_at L i x hi
 have c0 := h0.cells (g := g) rfl _ _ p0
 have c1 := h0.cells (g := g) rfl _ _ p1
 have c2 := h0.cells (g := g) rfl _ _ p2
 rw [add_flat rfl] at c0 c1 c2
 simp only [Nat.zero_add] at c0 c1 c2
 exact ⟨c0, c1, c2⟩
theorem fin_yes {w W : World} {tv : Value} {D : Nat} {L : List Tri} {pl : List Int} {a : Option Addr} {c : Nat} {a' : Option Addr} {c' : Nat} (A : Value) (u : Int) (hw : w.heap.size + 9 ≤ D) (h : Ib w tv W L pl a c a' c') (hd : W.heap[D]? = some (.deferred (some []))) :
  (lv3 w W A u).heap[D]? = some (.deferred (some [])) ∧ ((lv3 w W A u).putObj D (.deferred none)).cell? ⟨w.heap.size + 1, 0, none⟩ = some A ∧ ((lv3 w W A u).putObj D (.deferred none)).cell? ⟨w.heap.size + 2, 0, none⟩ = some (.int .i64 u) ∧ ((lv3 w W A u).putObj D (.deferred none)).cell? ⟨w.heap.size + 3, 0, none⟩ = some (.bool true) ∧ Gr w ((lv3 w W A u).putObj D (.deferred none)) ∧ Rd33 ((lv3 w W A u).putObj D (.deferred none)) a L.length c L := by
 have h1 : (W.setCell ⟨w.heap.size + 1, 0, none⟩ A).heap[D]? = some (.deferred (some [])) := (Below.heap_setCell _ _ _ _ (by dsimp only; omega)).trans hd
 have h2 : ((W.setCell ⟨w.heap.size + 1, 0, none⟩ A).setCell ⟨w.heap.size + 2, 0, none⟩ (.int .i64 u)).heap[D]? = some (.deferred (some [])) := (Below.heap_setCell _ _ _ _ (by dsimp only; omega)).trans h1
 have h3 : (lv3 w W A u).heap[D]? = some (.deferred (some [])) := (Below.heap_setCell _ _ _ _ (by dsimp only; omega)).trans h2
 have y1 : Bx (lv3 w W A u) (w.heap.size + 1) A := (h.x1.put.far (by omega)).far (by omega)
 have y2 : Bx (lv3 w W A u) (w.heap.size + 2) (.int .i64 u) := ((h.x2.far (by omega)).put).far (by omega)
 have y3 : Bx (lv3 w W A u) (w.heap.size + 3) (.bool true) := ((h.x3.far (by omega)).far (by omega)).put
 have gg : Gr w (lv3 w W A u) := ((h.gr.setCell (p := ⟨w.heap.size + 1, 0, none⟩) (by dsimp only; omega) _).setCell (p := ⟨w.heap.size + 2, 0, none⟩) (by dsimp only; omega) _).setCell (p := ⟨w.heap.size + 3, 0, none⟩) (by dsimp only; omega) _
 have hrow : (lv3 w W A u).ownsRow (w.heap.size + 9) 103 3 (.slice a L.length c) L.length (pk3 L) := row_far (row_far (row_far h.row (by omega)) (by omega)) (by omega)
 have hrow2 := kept_own hrow (grownBy_putObj' (lv3 w W A u) D (.deferred none)) (fun r er => by cases er; exact ⟨_, h3, rfl⟩)
 obtain ⟨a2, c2, ev, hr⟩ := rows_rd33 hrow2
 obtain ⟨rfl, _, rfl⟩ := Value.slice.inj ev
 exact ⟨h3, y1.fin h3, y2.fin h3, y3.fin h3, gr_put gg (by omega), hr⟩
theorem Ib.pile {w : World} {tv : Value} {A : World} {L : List Tri} {pl : List Int} {a : Option Addr} {c : Nat} {a' : Option Addr} {c' : Nat} (h : Ib w tv A L pl a c a' c') : OwnL (cutH A (w.heap.size + 9)) A (.slice a' pl.length c') pl := by
 obtain ⟨e, g⟩ := cutH_gr h.top
 refine ⟨?_, g⟩
 rw [e]
 exact h.rowp
theorem plan_in (at_ : Option Addr) (nt ct : Nat) (Ts : List (Int × Tbl SL)) (s : ByteArray) (w : World) (hr : RdWs w at_ nt ct Ts) (hv : vTabs Ts = true) (hs : s.size ≤ 144) (hT : Pow10 w) (hE : Errs w) :
  Calls Tryz.prog 55 #[.slice at_ nt ct, .string s] w (RetPl (qry (wsOf Ts) s.data.toList) w) := by
 have HR := Lh hr
 have HV := Lh (ws_14 hv)
 have HS := Lh hs
 have HT := Lh hT
 have HE := Lh hE
 have i7 : ¬ ((s.size : Int) > 144) := by omega
 clear hs hT hE hr hv
 refine (callsIn_wide (n := 3)).1 ?_
 refine callsIn_of_wp_marks Tryz.func55 rfl trivial ?_ rfl
 simp only [Tryz.ntmps55, List.size_toArray, List.length_cons, List.length_nil, Nat.reduceAdd, Nat.reduceSub, Array.replicate_succ, Array.replicate_zero, List.push_toArray, List.append_toArray, List.nil_append, List.cons_append]
 gi_wp2_with (gi_at_call 86; refine (callsIn_wide.2 (SplitSeq_any _ _ _)).mono ?_; rintro e w4 ⟨rfl, rfl⟩)
 have q0 : Bx (w.alloc (.cells #[.slice at_ nt ct] 22)) w.heap.size (.slice at_ nt ct) := (Gr.refl _).fresh' rfl rfl
 generalize hV0 : w.alloc (.cells #[.slice at_ nt ct] 22) = V0 at *
 have S0 : V0.heap.size = w.heap.size + 1 := by rw [← hV0]; simp
 have T0 : Gr w V0 := by rw [← hV0]; exact (Gr.refl _).alloc _
 have q1 : Bx (V0.alloc (.cells #[.slice none 0 0] 83)) V0.heap.size (.slice none 0 0) := (Gr.refl _).fresh' rfl rfl
 generalize hV1 : V0.alloc (.cells #[.slice none 0 0] 83) = V1 at *
 have S1 : V1.heap.size = V0.heap.size + 1 := by rw [← hV1]; simp
 have T1 : Gr V0 V1 := by rw [← hV1]; exact (Gr.refl _).alloc _
 have q2 : Bx (V1.alloc (.cells #[.int .i64 0] 3)) V1.heap.size (.int .i64 0) := (Gr.refl _).fresh' rfl rfl
 generalize hV2 : V1.alloc (.cells #[.int .i64 0] 3) = V2 at *
 have S2 : V2.heap.size = V1.heap.size + 1 := by rw [← hV2]; simp
 have T2 : Gr V1 V2 := by rw [← hV2]; exact (Gr.refl _).alloc _
 have q3 : Bx (V2.alloc (.cells #[.bool false] 4)) V2.heap.size (.bool false) := (Gr.refl _).fresh' rfl rfl
 generalize hV3 : V2.alloc (.cells #[.bool false] 4) = V3 at *
 have S3 : V3.heap.size = V2.heap.size + 1 := by rw [← hV3]; simp
 have T3 : Gr V2 V3 := by rw [← hV3]; exact (Gr.refl _).alloc _
 have q4 : Bx (V3.alloc (.cells #[.slice none 0 0] 83)) V3.heap.size (.slice none 0 0) := (Gr.refl _).fresh' rfl rfl
 generalize hV4 : V3.alloc (.cells #[.slice none 0 0] 83) = V4 at *
 have S4 : V4.heap.size = V3.heap.size + 1 := by rw [← hV4]; simp
 have T4 : Gr V3 V4 := by rw [← hV4]; exact (Gr.refl _).alloc _
 have q5 : Bx (V4.alloc (.cells #[.slice none 0 0] 23)) V4.heap.size (.slice none 0 0) := (Gr.refl _).fresh' rfl rfl
 generalize hV5 : V4.alloc (.cells #[.slice none 0 0] 23) = V5 at *
 have S5 : V5.heap.size = V4.heap.size + 1 := by rw [← hV5]; simp
 have T5 : Gr V4 V5 := by rw [← hV5]; exact (Gr.refl _).alloc _
 have q6 : Bx (V5.alloc (.cells #[.string s] 9)) V5.heap.size (.string s) := (Gr.refl _).fresh' rfl rfl
 generalize hV6 : V5.alloc (.cells #[.string s] 9) = V6 at *
 have S6 : V6.heap.size = V5.heap.size + 1 := by rw [← hV6]; simp
 have T6 : Gr V5 V6 := by rw [← hV6]; exact (Gr.refl _).alloc _
 have q7 : Bx (V6.alloc (.cells #[.string ⟨#[32]⟩] 9)) V6.heap.size (.string ⟨#[32]⟩) := (Gr.refl _).fresh' rfl rfl
 generalize hV7 : V6.alloc (.cells #[.string ⟨#[32]⟩] 9) = V7 at *
 have S7 : V7.heap.size = V6.heap.size + 1 := by rw [← hV7]; simp
 have T7 : Gr V6 V7 := by rw [← hV7]; exact (Gr.refl _).alloc _
 have q8 : Bx (V7.alloc (.cells #[.int .i64 0] 3)) V7.heap.size (.int .i64 0) := (Gr.refl _).fresh' rfl rfl
 generalize hV8 : V7.alloc (.cells #[.int .i64 0] 3) = V8 at *
 have S8 : V8.heap.size = V7.heap.size + 1 := by rw [← hV8]; simp
 have T8 : Gr V7 V8 := by rw [← hV8]; exact (Gr.refl _).alloc _
 have G0 := Lh (((((((((T0).trans T1).trans T2).trans T3).trans T4).trans T5).trans T6).trans T7).trans T8)
 have B0 := Lh (q0.gr ((((((((T1).trans T2).trans T3).trans T4).trans T5).trans T6).trans T7).trans T8))
 have B1 := Lh (q1.gr (((((((T2).trans T3).trans T4).trans T5).trans T6).trans T7).trans T8))
 have B2 := Lh (q2.gr ((((((T3).trans T4).trans T5).trans T6).trans T7).trans T8))
 have B3 := Lh (q3.gr (((((T4).trans T5).trans T6).trans T7).trans T8))
 have B4 := Lh (q4.gr ((((T5).trans T6).trans T7).trans T8))
 have B5 := Lh (q5.gr (((T6).trans T7).trans T8))
 have B6 := Lh (q6.gr ((T7).trans T8))
 have B7 := Lh (q7.gr (T8))
 have B8 := Lh q8
 rw [show V0.heap.size = w.heap.size + 1 by omega] at B1
 rw [show V1.heap.size = w.heap.size + 2 by omega] at B2
 rw [show V2.heap.size = w.heap.size + 3 by omega] at B3
 rw [show V3.heap.size = w.heap.size + 4 by omega] at B4
 rw [show V4.heap.size = w.heap.size + 5 by omega] at B5
 rw [show V5.heap.size = w.heap.size + 6 by omega] at B6
 rw [show V6.heap.size = w.heap.size + 7 by omega] at B7
 rw [show V7.heap.size = w.heap.size + 8 by omega] at B8
 have Z0 : V0.heap.size = w.heap.size + 1 := by omega
 have Z1 : V1.heap.size = w.heap.size + 2 := by omega
 have Z2 : V2.heap.size = w.heap.size + 3 := by omega
 have Z3 : V3.heap.size = w.heap.size + 4 := by omega
 have Z4 : V4.heap.size = w.heap.size + 5 := by omega
 have Z5 : V5.heap.size = w.heap.size + 6 := by omega
 have Z6 : V6.heap.size = w.heap.size + 7 := by omega
 have Z7 : V7.heap.size = w.heap.size + 8 := by omega
 have Z8 : V8.heap.size = w.heap.size + 9 := by omega
 clear hV0 q0 T0 S0 hV1 q1 T1 S1 hV2 q2 T2 S2 hV3 q3 T3 S3 hV4 q4 T4 S4 hV5 q5 T5 S5 hV6 q6 T6 S6 hV7 q7 T7 S7 hV8 q8 T8 S8
 have I0 : Ip w (.slice at_ nt ct) (wsOf Ts) [] V8 := ⟨[], [], none, 0, none, 0, rfl, B0.out.1, B1.out, B2.out, B3.out, B4.out, B5.out, World.ownsRow_nil _ _ _ _, World.ownsRow_nil _ _ _ _, by omega, G0.out⟩
 refine rangeFunc_wr rfl (by omega) (gf := 151) (lb := #[.pointer (some ⟨w.heap.size + 7, 0, none⟩), .pointer (some ⟨w.heap.size + 6, 0, none⟩), .pointer (some ⟨w.heap.size + 8, 0, none⟩)]) rfl trivial (enters_of Tryz.func151 (by kernel_rfl) rfl)
  (splitSeq1_seq _ (by omega) (w.heap.size + 6) (w.heap.size + 7) (w.heap.size + 8) (by omega) (by omega) 32 s V8 (by have := HS.out; omega) B7.out.1 B6.out.1 B6.out.2 B8.out.1)
  Kb.trans (fun W l o o' _ h hc _ => Kb.putObj W l o o' h hc) (fun A B h => h.keeps) (Below.refl _ _) (fun _ => rfl)
  (Ip w (.slice at_ nt ct) (wsOf Ts)) (Ix w (wsOf Ts)) (Ip.own (by omega)) (fun pre A B h k => Ip.wb h k) (fun c => Ix.own (by omega) c) I0
  (fun x => { tmps := #[.slice at_ nt ct, .string s, .pointer (some ⟨w.heap.size, 0, none⟩), undef, .pointer (some ⟨w.heap.size + 1, 0, none⟩), .pointer (some ⟨w.heap.size + 2, 0, none⟩), .pointer (some ⟨w.heap.size + 3, 0, none⟩), .pointer (some ⟨w.heap.size + 4, 0, none⟩), .pointer (some ⟨w.heap.size + 5, 0, none⟩), .string (bA x), undef, undef, .string s, .int .i64 s.size, .bool false, .string s, .func (.func 151) #[] #[.pointer (some ⟨w.heap.size + 7, 0, none⟩), .pointer (some ⟨w.heap.size + 6, 0, none⟩), .pointer (some ⟨w.heap.size + 8, 0, none⟩)], .string (bA x), undef, undef, undef, undef, undef, undef, undef, undef, undef, undef, undef, undef, undef, undef, undef, undef, undef, undef, undef, undef, undef, undef, undef, undef, undef, undef, undef, undef, undef, undef, undef, undef], defers := [] }) ?assign ?body ?done ?stop
 case assign =>
  intro l x W K hK
  unfold encK
  gi_wp2
  exact hK
 case body =>
  rintro l pre x W ⟨ms, pl, a, c, a', c', hp, hI⟩ hx hl
  clear I0 B0 B1 B2 B3 B4 B5 B6 B7 B8 G0 Z0 Z1 Z2 Z3 Z4 Z5 Z6 Z7 Z8 i7
  have HI := Lh hI
  have hms := planQ_len hp
  have hbd := planQ_bd HV.out.1 hp W14.nil
  have HK := Lh (show (ms.map stp).length < 999999 by rw [List.length_map]; simp only at hms; rw [hms]; have := HS.out; omega)
  have HPL := Lh (show pl.length ≤ 1000 ∧ W14 pl from ⟨by have := hbd.2; simp only [List.length_nil] at this; have := HS.out; omega, hbd.1⟩)
  have HTP := Lh hI.top
  have HSN := Lh (planQ_snoc (wsOf Ts) pre x [])
  rw [hp] at HSN
  have HSN' := Lh HSN.out
  clear HSN hms hbd
  have CP0 := Lh (show Pow10 W ∧ Errs W from ⟨HT.out.gr hI.gr, HE.out.gr hI.gr⟩)
  generalize hL : ms.map stp = L at *
  have HFR := Lh (show ∀ k, (Value.slice a L.length c).ownBlock = some k → ¬ W.heap.size ≤ k from fun k e h => by
   obtain ⟨_, o, ho, _⟩ := own_blk hI.row k e
   rw [Array.getElem?_eq_none h] at ho
   cases ho)
  clear hI hl
  cases hwd : wdOf x with
  | none =>
   have CP := Lh (parse_not hwd W CP0.out.1 CP0.out.2 hx)
   have HN := Lh (show planQ (wsOf Ts) (pre ++ [x]) [] = none by rw [HSN'.out, hwd])
   clear HSN' hwd hx hp
   gi_wp2_with (gi_at_call 87; (refine (callsIn_wide.2 CP.out).mono ?_); rintro e w1 ⟨p1, p2, p3, rfl, g1⟩; obtain ⟨wA, hwA⟩ : ∃ wA, w1.alloc (.cells #[.int .i64 p1, .int .i64 p2, .int .i64 p3] 103) = wA := ⟨_, rfl⟩; have gA : Gr W wA := g1.trans (hwA ▸ (Gr.refl w1).alloc _); have IA := Lh (HI.out.gr' gA); have GA := Lh gA; have hbt := box_tri w1 (p1) (p2) (p3) 103; rw [hwA] at hbt; obtain ⟨m0, m1, m2⟩ := hbt; have HB1 := Lh g1.size; obtain ⟨y1, z1⟩ := IA.out.x1; obtain ⟨y2, z2⟩ := IA.out.x2; obtain ⟨y3, z3⟩ := IA.out.x3; obtain ⟨y4, z4⟩ := IA.out.x4; obtain ⟨y5, z5⟩ := IA.out.x5; have y0 := IA.out.x0; clear g1 gA CP)
   exact ⟨leave_keeps (Kw.gr GA.out), leave HN.out IA.out.x1 IA.out.x2 IA.out.x3 IA.out.gr⟩
  | some wd =>
   have CP := Lh (parse_yes hwd W CP0.out.1 CP0.out.2 hx)
   cases hq : widW (wsOf Ts) wd pl with
   | none =>
    have HN := Lh (show planQ (wsOf Ts) (pre ++ [x]) [] = none by rw [HSN'.out, hwd]; simp only []; rw [hq]; rfl)
    clear HSN' hwd hx hp
    gi_wp2_with (first
     | (gi_at_call 87; (refine (callsIn_wide.2 CP.out).mono ?_); rintro e w1 ⟨rfl, g1⟩; obtain ⟨wA, hwA⟩ : ∃ wA, w1.alloc (.cells #[.int .i64 (stp wd).1, .int .i64 (stp wd).2.1, .int .i64 (stp wd).2.2] 103) = wA := ⟨_, rfl⟩; have gA : Gr W wA := g1.trans (hwA ▸ (Gr.refl w1).alloc _); have IA := Lh (HI.out.gr' gA); have GA := Lh gA; have hbt := box_tri w1 ((stp wd).1) ((stp wd).2.1) ((stp wd).2.2) 103; rw [hwA] at hbt; obtain ⟨m0, m1, m2⟩ := hbt; have HB1 := Lh g1.size; obtain ⟨y1, z1⟩ := IA.out.x1; obtain ⟨y2, z2⟩ := IA.out.x2; obtain ⟨y3, z3⟩ := IA.out.x3; obtain ⟨y4, z4⟩ := IA.out.x4; obtain ⟨y5, z5⟩ := IA.out.x5; have y0 := IA.out.x0; clear g1 gA CP)
     | (gi_at_builtin; go_loud ((refine wpListIn_app_triR rfl _ _ rfl _ L rfl (rows_gr IA.out.row ((Gr.refl wA).alloc _)) (Nat.le_trans IA.out.top ((Gr.refl wA).alloc _).size) _ (stp wd) rfl (box_tri wA _ _ _ 103) HK.out ?_); intro a2 c2 w5 hO hG; obtain ⟨w6, hw6⟩ : ∃ w6, w5.setCell ⟨w.heap.size + 4, 0, none⟩ (.slice a2 (L.length + 1) c2) = w6 := ⟨_, rfl⟩; have hAB := Ib.stepA (IA.out.gr' ((Gr.refl wA).alloc _)) hO hG; have n0 := box_keep (k := w.heap.size + 4) (u := .slice a2 (L.length + 1) c2) (((Gr.refl wA).alloc (.cells #[.int .i64 (stp wd).1, .int .i64 (stp wd).2.1, .int .i64 (stp wd).2.2] 103)).cell m0) hG (fun e => HFR.out _ e HB1.out) (by have := HTP.out; have := HB1.out; omega); have n1 := box_keep (k := w.heap.size + 4) (u := .slice a2 (L.length + 1) c2) (((Gr.refl wA).alloc (.cells #[.int .i64 (stp wd).1, .int .i64 (stp wd).2.1, .int .i64 (stp wd).2.2] 103)).cell m1) hG (fun e => HFR.out _ e HB1.out) (by have := HTP.out; have := HB1.out; omega); have n2 := box_keep (k := w.heap.size + 4) (u := .slice a2 (L.length + 1) c2) (((Gr.refl wA).alloc (.cells #[.int .i64 (stp wd).1, .int .i64 (stp wd).2.1, .int .i64 (stp wd).2.2] 103)).cell m2) hG (fun e => HFR.out _ e HB1.out) (by have := HTP.out; have := HB1.out; omega); rw [hw6] at hAB n0 n1 n2; obtain ⟨t4, t5⟩ := grown_box hG (((Gr.refl wA).alloc (.cells #[.int .i64 (stp wd).1, .int .i64 (stp wd).2.1, .int .i64 (stp wd).2.2] 103)).cell y4) (fun e => by have := (own_blk IA.out.row _ e).1; omega); have t5' := t5.trans ((Below.frozen ((Gr.refl wA).alloc (.cells #[.int .i64 (stp wd).1, .int .i64 (stp wd).2.1, .int .i64 (stp wd).2.2] 103)) (World.block_lt_of_cell? wA _ y4)).trans z4); have IB := Lh hAB.1; have KB := Lh ((Kw.gr (GA.out.trans ((Gr.refl wA).alloc _))).trans hAB.2); clear hAB hO hG t5 y0 y1 y2 y3 y4 y5 z1 z2 z3 z4 z5 m0 m1 m2; obtain ⟨y1, z1⟩ := IB.out.x1; obtain ⟨y2, z2⟩ := IB.out.x2; obtain ⟨y3, z3⟩ := IB.out.x3; obtain ⟨y4, z4⟩ := IB.out.x4; obtain ⟨y5, z5⟩ := IB.out.x5; have y0 := IB.out.x0; have CW := Lh (wide_any (cutH w6 (w.heap.size + 9)) w6 wd at_ nt ct Ts (.slice a' pl.length c') pl (HR.out.gr IB.out.gr) IB.out.pile HPL.out.1 HPL.out.2)))
     | (gi_at_call 88; (refine (callsIn_wide.2 CW.out).mono ?_); rintro e w7 ⟨v', ok, rfl, ⟨va, vn, vc, rfl⟩, gc, gw, hk⟩; rw [hq] at hk; simp only at hk; subst hk; have GW := Lh gw; obtain ⟨s1, s2⟩ := grown_box gw y5 (fun e => by have := (own_blk IB.out.rowp _ e).1; omega); replace s2 := s2.trans z5; have fr := Lh (fun b (hb : b < w.heap.size + 9) => show (Value.slice a' pl.length c').ownBlock ≠ some b from fun e => by have := (own_blk IB.out.rowp _ e).1; omega); obtain ⟨k1, l1⟩ := (IB.out.x1.grown gw (fr.out _ (by omega))).far (k := w.heap.size + 5) (u := .slice va vn vc) (by omega); obtain ⟨k2, l2⟩ := (IB.out.x2.grown gw (fr.out _ (by omega))).far (k := w.heap.size + 5) (u := .slice va vn vc) (by omega); obtain ⟨k3, l3⟩ := (IB.out.x3.grown gw (fr.out _ (by omega))).far (k := w.heap.size + 5) (u := .slice va vn vc) (by omega); clear gc gw CW y0 y1 y2 y3 y4 y5 z1 z2 z3 z4 z5))
    exact ⟨leave_keeps (KB.out.trans (Kw.stepB IB.out GW.out (.slice va vn vc))), leave HN.out ⟨k1, l1⟩ ⟨k2, l2⟩ ⟨k3, l3⟩ ((IB.out.gr.grown GW.out fun k e => by have := (own_blk IB.out.rowp _ e).1; omega).setCell (p := ⟨w.heap.size + 5, 0, none⟩) (by dsimp only; omega) _)⟩
   | some q =>
    have HN := Lh (show planQ (wsOf Ts) (pre ++ [x]) [] = some (ms ++ [wd], q) by rw [HSN'.out, hwd]; simp only []; rw [hq]; rfl)
    clear HSN' hwd hx hp
    gi_wp2_with (first
     | (gi_at_call 87; (refine (callsIn_wide.2 CP.out).mono ?_); rintro e w1 ⟨rfl, g1⟩; obtain ⟨wA, hwA⟩ : ∃ wA, w1.alloc (.cells #[.int .i64 (stp wd).1, .int .i64 (stp wd).2.1, .int .i64 (stp wd).2.2] 103) = wA := ⟨_, rfl⟩; have gA : Gr W wA := g1.trans (hwA ▸ (Gr.refl w1).alloc _); have IA := Lh (HI.out.gr' gA); have GA := Lh gA; have hbt := box_tri w1 ((stp wd).1) ((stp wd).2.1) ((stp wd).2.2) 103; rw [hwA] at hbt; obtain ⟨m0, m1, m2⟩ := hbt; have HB1 := Lh g1.size; obtain ⟨y1, z1⟩ := IA.out.x1; obtain ⟨y2, z2⟩ := IA.out.x2; obtain ⟨y3, z3⟩ := IA.out.x3; obtain ⟨y4, z4⟩ := IA.out.x4; obtain ⟨y5, z5⟩ := IA.out.x5; have y0 := IA.out.x0; clear g1 gA CP)
     | (gi_at_builtin; go_loud ((refine wpListIn_app_triR rfl _ _ rfl _ L rfl (rows_gr IA.out.row ((Gr.refl wA).alloc _)) (Nat.le_trans IA.out.top ((Gr.refl wA).alloc _).size) _ (stp wd) rfl (box_tri wA _ _ _ 103) HK.out ?_); intro a2 c2 w5 hO hG; obtain ⟨w6, hw6⟩ : ∃ w6, w5.setCell ⟨w.heap.size + 4, 0, none⟩ (.slice a2 (L.length + 1) c2) = w6 := ⟨_, rfl⟩; have hAB := Ib.stepA (IA.out.gr' ((Gr.refl wA).alloc _)) hO hG; have n0 := box_keep (k := w.heap.size + 4) (u := .slice a2 (L.length + 1) c2) (((Gr.refl wA).alloc (.cells #[.int .i64 (stp wd).1, .int .i64 (stp wd).2.1, .int .i64 (stp wd).2.2] 103)).cell m0) hG (fun e => HFR.out _ e HB1.out) (by have := HTP.out; have := HB1.out; omega); have n1 := box_keep (k := w.heap.size + 4) (u := .slice a2 (L.length + 1) c2) (((Gr.refl wA).alloc (.cells #[.int .i64 (stp wd).1, .int .i64 (stp wd).2.1, .int .i64 (stp wd).2.2] 103)).cell m1) hG (fun e => HFR.out _ e HB1.out) (by have := HTP.out; have := HB1.out; omega); have n2 := box_keep (k := w.heap.size + 4) (u := .slice a2 (L.length + 1) c2) (((Gr.refl wA).alloc (.cells #[.int .i64 (stp wd).1, .int .i64 (stp wd).2.1, .int .i64 (stp wd).2.2] 103)).cell m2) hG (fun e => HFR.out _ e HB1.out) (by have := HTP.out; have := HB1.out; omega); rw [hw6] at hAB n0 n1 n2; obtain ⟨t4, t5⟩ := grown_box hG (((Gr.refl wA).alloc (.cells #[.int .i64 (stp wd).1, .int .i64 (stp wd).2.1, .int .i64 (stp wd).2.2] 103)).cell y4) (fun e => by have := (own_blk IA.out.row _ e).1; omega); have t5' := t5.trans ((Below.frozen ((Gr.refl wA).alloc (.cells #[.int .i64 (stp wd).1, .int .i64 (stp wd).2.1, .int .i64 (stp wd).2.2] 103)) (World.block_lt_of_cell? wA _ y4)).trans z4); have IB := Lh hAB.1; have KB := Lh ((Kw.gr (GA.out.trans ((Gr.refl wA).alloc _))).trans hAB.2); clear hAB hO hG t5 y0 y1 y2 y3 y4 y5 z1 z2 z3 z4 z5 m0 m1 m2; obtain ⟨y1, z1⟩ := IB.out.x1; obtain ⟨y2, z2⟩ := IB.out.x2; obtain ⟨y3, z3⟩ := IB.out.x3; obtain ⟨y4, z4⟩ := IB.out.x4; obtain ⟨y5, z5⟩ := IB.out.x5; have y0 := IB.out.x0; have CW := Lh (wide_any (cutH w6 (w.heap.size + 9)) w6 wd at_ nt ct Ts (.slice a' pl.length c') pl (HR.out.gr IB.out.gr) IB.out.pile HPL.out.1 HPL.out.2)))
     | (gi_at_call 88; (refine (callsIn_wide.2 CW.out).mono ?_); rintro e w7 ⟨v', ok, rfl, ⟨va, vn, vc, rfl⟩, gc, gw, hk⟩; rw [hq] at hk; obtain ⟨rfl, hk⟩ := hk; have hk0 := hk.1; rw [(cutH_gr IB.out.top).1] at hk0; obtain ⟨a3, c3, ev, _, _⟩ := hk.rd; obtain ⟨rfl, rfl, rfl⟩ := Value.slice.inj ev; have HO7 := Lh hk0; have GW := Lh gw; obtain ⟨s1, s2⟩ := grown_box gw y5 (fun e => by have := (own_blk IB.out.rowp _ e).1; omega); replace s2 := s2.trans z5; clear gc gw CW y0 y1 y2 y3 y4 y5 z1 z2 z3 z4 z5 hk hk0))
    have hf := Ib.stepB IB.out HO7.out GW.out
    have hkw := KB.out.trans (Kw.stepB IB.out GW.out (.slice va q.length vc))
    exact ⟨hkw.1, hkw.2, _, _, _, _, _, _, HN.out, by rw [List.map_append, hL]; exact hf⟩
 case done =>
  rintro D ys W hD rfl ⟨ms, pl, a, c, a', c', hp, hI⟩ hK
  have HI := Lh hI
  have HD := Lh hK
  have HDW := Lh (show w.heap.size + 9 ≤ D by omega)
  have HQ0 := Lh (show qry (wsOf Ts) s.data.toList = if ms.length ≤ 12 ∧ pl.length = 1 then some (ms, pl.getD 0 0) else none by unfold qry; rw [hp])
  obtain ⟨c4, f4⟩ := hI.x4
  obtain ⟨c5, f5⟩ := hI.x5
  obtain ⟨c1, f1⟩ := hI.x1
  obtain ⟨c2, f2⟩ := hI.x2
  obtain ⟨c3, f3⟩ := hI.x3
  rw [List.length_map] at c4
  clear hI I0 B0 B1 B2 B3 B4 B5 B6 B7 B8 G0 hD hK hp i7 Z0 Z1 Z2 Z3 Z4 Z5 Z6 Z7 Z8
  by_cases hm : ms.length ≤ 12
  focus
   have i1 : ¬ (ms.length : Int) > 12 := by omega
   by_cases h1 : pl.length = 1
   ·have z1 : ((pl.length : Int) != 1) = false := by simp; omega
    have HQ := Lh (show qry (wsOf Ts) s.data.toList = some (ms, pl.getD 0 0) by rw [HQ0.out, if_pos ⟨hm, h1⟩])
    obtain ⟨g, cp, ev, _, _, hcell⟩ := HI.out.pile.full (by omega)
    simp only [Value.slice.injEq, true_and] at ev
    obtain ⟨rfl, rfl⟩ := ev
    have hcell0 := hcell 0 (by omega)
    rw [show iv pl 0 = pl.getD 0 0 from rfl] at hcell0
    have HGg := Lh ((own_blk HI.out.rowp g rfl).1)
    generalize pl.getD 0 0 = u at *
    generalize hpl : pl.length = np at *
    generalize hml : ms.length = nm at *
    clear HQ0 hm hcell
    subst h1
    gi_upto_region 16 with fail
    have hS : Fs w (.slice a nm c) (.slice (some ⟨g, 0, none⟩) 1 c') (.int .i64 u) g W.drew :=
     ⟨⟨(Gr.refl W).drew.cell c4, (Gr.refl W).drew.cell c5, (Gr.refl W).drew.cell hcell0⟩, ⟨_, HI.out.x1.gr (Gr.refl W).drew⟩, ⟨_, HI.out.x2.gr (Gr.refl W).drew⟩, ⟨_, HI.out.x3.gr (Gr.refl W).drew⟩⟩
    obtain ⟨wS, hwS⟩ : ∃ wS, W.drew = wS := ⟨_, rfl⟩
    have HIS := Lh (hwS ▸ HI.out.gr' (Gr.refl W).drew)
    have HDS := Lh (hwS ▸ heap_gr HD.out (Gr.refl W).drew)
    refine wpIn_mono ?_ (fun e a w h => NoP.out h)
    refine wpIn_region_held (Fs w (.slice a nm c) (.slice (some ⟨g, 0, none⟩) 1 c') (.int .i64 u) g) 7 (by kernel_rfl) rfl rfl ?_
    rw [hwS] at hS ⊢
    clear hwS c1 c2 c3 c4 c5 f1 f2 f3 f4 f5 hcell0
    refine H4 0 1 2 3 (fun w' hSw => And.intro (hSw.1.1) (And.intro (hSw.1.2.1) (hSw.1.2.2))) hS ?_
    obtain ⟨v4, e4, f4⟩ := hS.2.1
    have hS4 := hS.set HGg.out (k := w.heap.size + 1) (by omega) (.slice a nm c)
    obtain ⟨w1, hw1⟩ : ∃ w1, wS.setCell ⟨w.heap.size + 1, 0, none⟩ (.slice a nm c) = w1 := ⟨_, rfl⟩
    rw [hw1] at hS4
    refine Hr 4 rfl (fun K hK => ?_)
    go_simp
    try rw [hw1]
    refine hK.out _ _ hS4 ?_
    clear hK K hS e4 f4
    have hS := hS4
    clear hS4
    obtain ⟨v5, e5, f5⟩ := hS.2.2.1
    have hS5 := hS.set HGg.out (k := w.heap.size + 2) (by omega) (.int .i64 u)
    obtain ⟨w2, hw2⟩ : ∃ w2, w1.setCell ⟨w.heap.size + 2, 0, none⟩ (.int .i64 u) = w2 := ⟨_, rfl⟩
    rw [hw2] at hS5
    refine Hr 5 rfl (fun K hK => ?_)
    go_simp
    try rw [hw2]
    refine hK.out _ _ hS5 ?_
    clear hK K hS e5 f5
    have hS := hS5
    clear hS5
    obtain ⟨v6, e6, f6⟩ := hS.2.2.2
    have hS6 := hS.set HGg.out (k := w.heap.size + 3) (by omega) (.bool true)
    obtain ⟨w3, hw3⟩ : ∃ w3, w2.setCell ⟨w.heap.size + 3, 0, none⟩ (.bool true) = w3 := ⟨_, rfl⟩
    rw [hw3] at hS6
    refine Hr 6 rfl (fun K hK => ?_)
    go_simp
    try rw [hw3]
    refine hK.out _ _ hS6 ?_
    clear hK K hS e6 f6
    have hS := hS6
    clear hS6
    refine Hd ?_
    unfold NoP
    have hl3 : lv3 w wS (.slice a nm c) u = w3 := by unfold lv3; rw [hw1, hw2, hw3]
    obtain ⟨d1, d2, d3, d4, d5, d6⟩ := fin_yes (.slice a nm c) u HDW.out HIS.out HDS.out
    rw [hl3] at d1 d2 d3 d4 d5 d6
    rw [List.length_map, hml] at d6
    clear hw1 hw2 hw3 hl3 hS
    gi_wp2_with fail
    refine ⟨by simp, .inl ⟨_, _, rfl, run_takeDeferred d1, ?_⟩⟩
    rw [HQ.out]
    exact ⟨.tuple #[.slice a nm c, .int .i64 u, .bool true], by simp [results, Tryz.f55, go_sem, d2, d3, d4], _, _, _, _, _, rfl, d5, rfl, rfl, hml.symm, d6⟩
   have z1 : ((pl.length : Int) != 1) = true := by simp; omega
   have HQ := Lh (show qry (wsOf Ts) s.data.toList = none by rw [HQ0.out, if_neg (fun e => h1 e.2)])
   generalize hpl : pl.length = np at *
   generalize hml : ms.length = nm at *
   clear HQ0 hm h1
  rotate_left
  focus
   have i1 : (ms.length : Int) > 12 := by omega
   have HQ := Lh (show qry (wsOf Ts) s.data.toList = none by rw [HQ0.out, if_neg (fun e => hm e.1)])
   generalize hpl : pl.length = np at *
   generalize hml : ms.length = nm at *
   clear HQ0 hm
  all_goals
   gi_wp2_with fail
   obtain ⟨d1, d2, d3, d4, d5⟩ := fin_no HDW.out HI.out.gr HI.out.x1 HI.out.x2 HI.out.x3 HD.out
   unfold lv at d1 d2 d3 d4 d5
   refine ⟨by simp, .inl ⟨_, _, rfl, run_takeDeferred d1, ?_⟩⟩
   rw [HQ.out]
   exact ⟨.tuple #[.slice none 0 0, .int .i64 0, .bool false], by simp [results, Tryz.f55, go_sem, d2, d3, d4], _, _, _, _, _, rfl, d5, rfl⟩
 case stop =>
  rintro D cc pre W hD ⟨t, ht⟩ ⟨rfl, hn, x1, x2, x3, gw⟩ hK
  have HQ := Lh (show qry (wsOf Ts) s.data.toList = none by unfold qry; rw [ht, planQ_none t hn])
  have c1 := x1.fin hK
  have c2 := x2.fin hK
  have c3 := x3.fin hK
  have HG := Lh (gr_put (D := D) gw (by omega))
  have HD := Lh hK
  clear x1 x2 x3 gw hK hn ht
  gi_wp2
  refine ⟨by simp, .inl ⟨_, _, rfl, run_takeDeferred HD.out, ?_⟩⟩
  rw [HQ.out]
  exact ⟨.tuple #[.slice none 0 0, .int .i64 0, .bool false], by simp [results, Tryz.f55, go_sem, c1, c2, c3], _, _, _, _, _, rfl, HG.out, rfl⟩
theorem plan_any (at_ : Option Addr) (nt ct : Nat) (Ts : List (Int × Tbl SL)) (s : ByteArray) (w : World) (hr : RdWs w at_ nt ct Ts) (hv : vTabs Ts = true) (hs : s.size ≤ 9223372036854775807) (hT : Pow10 w) (hE : Errs w) :
  Calls Tryz.prog 55 #[.slice at_ nt ct, .string s] w (RetPl (qry (wsOf Ts) s.data.toList) w) := by
 by_cases hl : s.size ≤ 144
 ·exact plan_in at_ nt ct Ts s w hr hv hl hT hE
 have ep : qry (wsOf Ts) s.data.toList = none := by
  cases hq : qry (wsOf Ts) s.data.toList with
  | none => rfl
  | some x => have := qry_len hq; rw [size_key] at this; omega
 rw [ep]
 have i7 : (s.size : Int) > 144 := by omega
 clear ep hl hT hE hr hv
 clear hs
 go_enter Tryz.func55, Tryz.ntmps55
 go_wp2_with fail
 refine bodyPost_ret (v := .tuple #[.slice none 0 0, .int .i64 0, .bool false]) (by simp [results, Tryz.results55, go_sem]) rfl ?_
 exact ⟨_, _, _, _, _, rfl, ((((Gr.refl w).alloc _).alloc _).alloc _).alloc _, rfl⟩
end Go.Proofs.YtehdemcfeoiecaaGreatDoor
namespace Go.Proofs.YtehdemcfeoiecaaGreatDoor.RS
open Go.RowKit Go.Firn Go.Firn.Tb
def RetAns (r : Except Int (Tbl SL × Int)) (w : World) (e : Ending) (w' : World) : Prop := match r with
 | .error E => e = .returned (.tuple #[.slice none 0 0, .int .i64 0, .int .i64 E]) ∧ Gr w w'
 | .ok x => ∃ a n c, e = .returned (.tuple #[.slice a n c, .int .i64 x.2, .int .i64 0]) ∧ RdT w' w' a n c x.1 ∧ Gr w w'
structure AnsOk (F : RF) (R : Rg SL) (G : SL → Prop) (μ : SL → Nat) (B b : Nat) (fn : Nat) (fb : Array Value) (φ : SL → SL) (w : World) : Prop where
 ring : RingOk F R G μ B w
 from_ : FromOk fn fb φ G0 w
 good : ∀ L, G0 L → G (φ L)
 fit : ∀ d, G d → R.fits d = true → μ d ≤ b
 mul : ∀ x y, G x → G y → R.stays x = true → R.stays y = true → R.fits x = true → R.fits y = true → μ (R.mul x y) ≤ b
 beg : ∀ L, G0 L → μ (φ L) ≤ b
 room : 120 * b ≤ B
theorem AnsOk.gr {F : RF} {R : Rg SL} {G : SL → Prop} {μ : SL → Nat} {B b : Nat} {fn : Nat} {fb : Array Value} {φ : SL → SL} {w w' : World} (h : AnsOk F R G μ B b fn fb φ w) (g : Gr w w') : AnsOk F R G μ B b fn fb φ w' :=
 ⟨h.ring.gr g, h.from_.gr g, h.good, h.fit, h.mul, h.beg, h.room⟩
theorem qry_plan {ws : List Int} {q : Key} {x : List Wd × Int} (h : qry ws q = some x) : ∃ pw, planW ws x.1 [] = some pw ∧ pw.length = 1 ∧ x.1.length ≤ 12 := by
 unfold qry at h
 split at h
 ·cases h
 rename_i y hy
 split at h
 ·rename_i hl
  cases h
  exact ⟨_, planQ_planW hy, hl.2, hl.1⟩
 cases h
theorem scrXFs_first_at {P : Prop} (h : P := by
  have hk' : k < Ts.length := by simpa [wsOf] using hk
  have hx := List.getElem?_eq_getElem hk'
  rw [(tabsOf_at (φ := φ) hx).1]
  have hT := (vTab_TG ((vTabs_iff.1 hv).1 _ (List.getElem_mem hk'))).1
  refine first_any fn fb φ G0 k bt bf a n c Ts _ w h.from_ hr hx (by have := hT.len; omega) (fun x hx => ?_) hbt hbf
  have h1 := hT.wd x hx
  have h2 := hT.w1
  exact ⟨by omega, by omega, hT.gd x hx⟩) : P := h
theorem first_at {F : RF} {R : Rg SL} {G : SL → Prop} {μ : SL → Nat} {B b : Nat} {fn : Nat} {fb : Array Value} {φ : SL → SL} {w : World} (h : AnsOk F R G μ B b fn fb φ w) (bt bf k : Nat) (a : Option Addr) (n c : Nat) (Ts : List (Int × Tbl SL)) (hr : RdWs w a n c Ts) (hv : vTabs Ts = true) (hk : k < (wsOf Ts).length) (hbt : w.cell? ⟨bt, 0, none⟩ = some (.slice a n c)) (hbf : w.cell? ⟨bf, 0, none⟩ = some (.func (.func fn) #[] fb)) :
  Calls Tryz.prog 106 #[.int .i64 k, .pointer (some ⟨bt, 0, none⟩), .pointer (some ⟨bf, 0, none⟩)] w (RetRows w ((tabsOf φ Ts).getD k [])) := by exact scrXFs_first_at
theorem scrXFs_sum_ok {P : Prop} (h : P := by
  have hm : MuB R G μ b (tabsOf φ Ts) := ⟨h.fit, h.mul, fun T hT x hx => by
   obtain ⟨y, hy, rfl⟩ := List.mem_map.1 hT
   obtain ⟨z, hz, rfl⟩ := List.mem_map.1 hx
   exact h.beg _ ((vTab_TG ((vTabs_iff.1 hv).1 _ hy)).1.gd z hz)⟩
  have h1 := sumT_le (μ := μ) (b := b) (L := cutW R (tabsOf φ Ts) s p) fun x hx => rows_mu hm hP hg hw x (cut_mem hx)
  have h2 := cut_len hg hP hw
  have h3 := h.room
  have h4 : (cutW R (tabsOf φ Ts) s p).length * b ≤ 120 * b := Nat.mul_le_mul_right b h2
  omega) : P := h
theorem sum_ok {F : RF} {R : Rg SL} {G : SL → Prop} {μ : SL → Nat} {B b : Nat} {fn : Nat} {fb : Array Value} {φ : SL → SL} {w : World} (h : AnsOk F R G μ B b fn fb φ w) {Ts : List (Int × Tbl SL)} (hv : vTabs Ts = true) {p : List (Tbl SL)} {pw qw : List Int} {s : Wd} (hP : PI R G pw p) (hg : GI G (wsOf Ts) (tabsOf φ Ts)) (hw : widW (wsOf Ts) s pw = some qw) : sumT μ (cutW R (tabsOf φ Ts) s p) ≤ B := by exact scrXFs_sum_ok
theorem scrXFs_answer_any {P : Prop} (h : P := by
  have hmf : ∀ (fn : Fn) (first cap : Array Value) (w : World), (Instr.makeFunc fn first cap).run Tryz.prog w = .ok (.func fn first cap) w := fun _ _ _ _ => rfl
  obtain ⟨w1, hw1⟩ : ∃ w1, w.alloc (.cells #[.slice a n c] 22) = w1 := ⟨_, rfl⟩
  have g1 : Gr w w1 := hw1 ▸ (Gr.refl w).alloc _
  have z1 : w1.cell? ⟨w.heap.size, 0, none⟩ = some (.slice a n c) := hw1 ▸ cell_new1 w _ 22
  first | (have z := zS; clear z; obtain ⟨w2, hw2⟩ : ∃ w2, w1.alloc (.cells #[.func (.func F.p) #[] F.pb, .func (.func F.t) #[] F.tb, .func (.func F.s) #[] F.sb, .func (.func F.f) #[] F.fb] 117) = w2 := ⟨_, rfl⟩) | (obtain ⟨w2, hw2⟩ : ∃ w2, w1.alloc (.cells #[.func (.func F.p) #[] F.pb, .func (.func F.t) #[] F.tb, .func (.func F.s) #[] F.sb, .func (.func F.f) #[] F.fb] 63) = w2 := ⟨_, rfl⟩)
  have g2 : Gr w1 w2 := hw2 ▸ (Gr.refl w1).alloc _
  obtain ⟨f0, f1, f2, f3⟩ := BoxF.new hw2
  first | (have z := zS; clear z; obtain ⟨w3, hw3⟩ : ∃ w3, w2.alloc (.cells #[.func (.func fn) #[] fb] 119) = w3 := ⟨_, rfl⟩) | (obtain ⟨w3, hw3⟩ : ∃ w3, w2.alloc (.cells #[.func (.func fn) #[] fb] 69) = w3 := ⟨_, rfl⟩)
  have g3 : Gr w2 w3 := hw3 ▸ (Gr.refl w2).alloc _
  first | (have z := zS; clear z; have z3 : w3.cell? ⟨w2.heap.size, 0, none⟩ = some (.func (.func fn) #[] fb) := hw3 ▸ cell_new1 w2 _ 119) | (have z3 : w3.cell? ⟨w2.heap.size, 0, none⟩ = some (.func (.func fn) #[] fb) := hw3 ▸ cell_new1 w2 _ 69)
  replace z1 := (g2.trans g3).cell z1
  replace f0 := g3.cell f0
  replace f1 := g3.cell f1
  replace f2 := g3.cell f2
  replace f3 := g3.cell f3
  have HG3 := Lh ((g1.trans g2).trans g3)
  have HX := Lh hr
  have HA := Lh hA
  have C22 := Lh (Valid_any a n c Ts w3 (hr.gr HG3.out) hz)
  have C55 := Lh (fun (hv : vTabs Ts = true) W (k : Gr w3 W) => plan_any a n c Ts q W ((hr.gr HG3.out).gr k) hv hq ((hT.gr HG3.out).gr k) ((hE.gr HG3.out).gr k))
  unfold RF.val
  clear hr hz hq hT hE hA g1 g2 g3
  cases hv : vTabs Ts with
  | false =>
   rw [hv] at C22
   have HQ := Lh (show resQ R φ right Ts q.data.toList = .error 90 by unfold resQ; rw [hv]; rfl)
   clear C55 HX HA hv
   first | (have z := zS; clear z; go_enter Tryz.func78, Tryz.ntmps78) | (go_enter Tryz.func40, Tryz.ntmps40)
   generalize hb1 : w.heap.size = b1 at *
   generalize hb2 : w1.heap.size = b2 at *
   generalize hb3 : w2.heap.size = b3 at *
   go_wp2_with (go_at_call 22; (with_reducible refine C22.out.mono ?_); rintro e w4 ⟨rfl, g4⟩; have G4 := Lh g4; clear g4)
   first | (have z := zS; clear z; refine bodyPost_ret (v := .tuple #[.slice none 0 0, .int .i64 0, .int .i64 90]) (by simp [results, Tryz.results78, go_sem]) rfl ?_) | (refine bodyPost_ret (v := .tuple #[.slice none 0 0, .int .i64 0, .int .i64 90]) (by simp [results, Tryz.results40, go_sem]) rfl ?_)
   rw [HQ.out]
   exact ⟨rfl, HG3.out.trans G4.out⟩
  | true =>
   rw [hv] at C22
   replace C55 := Lh (C55.out hv)
   have HV := Lh hv
   unfold RetB at C22
   cases hqq : qry (wsOf Ts) q.data.toList with
   | none =>
    rw [hqq] at C55
    have HQ := Lh (show resQ R φ right Ts q.data.toList = .error 91 by unfold resQ; rw [hv, hqq]; rfl)
    clear HX HA hv hqq
    first | (have z := zS; clear z; go_enter Tryz.func78, Tryz.ntmps78) | (go_enter Tryz.func40, Tryz.ntmps40)
    generalize hb1 : w.heap.size = b1 at *
    generalize hb2 : w1.heap.size = b2 at *
    generalize hb3 : w2.heap.size = b3 at *
    go_wp2_with (first
     | (go_at_call 22; (with_reducible refine C22.out.mono ?_); rintro e w4 ⟨rfl, g4⟩; have G4 := Lh g4; replace z1 := g4.cell z1; replace f0 := g4.cell f0; replace f1 := g4.cell f1; replace f2 := g4.cell f2; replace f3 := g4.cell f3; replace z3 := g4.cell z3; clear g4 C22)
     | (go_at_call 55; (with_reducible refine (C55.out _ G4.out).mono ?_); rintro e w5 ⟨sa, sn, sc, sW, ok, rfl, g5, hk⟩; simp only at hk; subst hk; have G5 := Lh (G4.out.trans g5); clear g5 C55))
    first | (have z := zS; clear z; refine bodyPost_ret (v := .tuple #[.slice none 0 0, .int .i64 0, .int .i64 91]) (by simp [results, Tryz.results78, go_sem]) rfl ?_) | (refine bodyPost_ret (v := .tuple #[.slice none 0 0, .int .i64 0, .int .i64 91]) (by simp [results, Tryz.results40, go_sem]) rfl ?_)
    rw [HQ.out]
    exact ⟨rfl, HG3.out.trans G5.out⟩
   | some x =>
    obtain ⟨l, qW⟩ := x
    rw [hqq] at C55
    cases right with
    | false =>
     have HQ := Lh (show resQ R φ false Ts q.data.toList = .error 2 by unfold resQ; rw [hv, hqq]; rfl)
     clear HX HA hv hqq
     first | (have z := zS; clear z; go_enter Tryz.func78, Tryz.ntmps78) | (go_enter Tryz.func40, Tryz.ntmps40)
     generalize hb1 : w.heap.size = b1 at *
     generalize hb2 : w1.heap.size = b2 at *
     generalize hb3 : w2.heap.size = b3 at *
     go_wp2_with (first
      | (go_at_call 22; (with_reducible refine C22.out.mono ?_); rintro e w4 ⟨rfl, g4⟩; have G4 := Lh g4; replace z1 := g4.cell z1; replace f0 := g4.cell f0; replace f1 := g4.cell f1; replace f2 := g4.cell f2; replace f3 := g4.cell f3; replace z3 := g4.cell z3; clear g4 C22)
      | (go_at_call 55; (with_reducible refine (C55.out _ G4.out).mono ?_); rintro e w5 ⟨sa, sn, sc, sW, ok, rfl, g5, hk⟩; obtain ⟨rfl, _⟩ := hk; have G5 := Lh (G4.out.trans g5); clear g5 C55))
     first | (have z := zS; clear z; refine bodyPost_ret (v := .tuple #[.slice none 0 0, .int .i64 0, .int .i64 2]) (by simp [results, Tryz.results78, go_sem]) rfl ?_) | (refine bodyPost_ret (v := .tuple #[.slice none 0 0, .int .i64 0, .int .i64 2]) (by simp [results, Tryz.results40, go_sem]) rfl ?_)
     rw [HQ.out]
     exact ⟨rfl, HG3.out.trans G5.out⟩
    | true =>
     have HA1 := Lh (HA.out rfl)
     have HQ := Lh (show resQ R φ true Ts q.data.toList = (match ansQ R (tabsOf φ Ts) l with
      | none => .error 4
      | some T => .ok (T, qW)) by unfold resQ; simp only [hv, hqq, if_true]; cases ansQ R (tabsOf φ Ts) l <;> rfl)
     obtain ⟨qw, hqw, hq1, hl12⟩ := qry_plan hqq
     simp only at hqw hl12
     have HQW := Lh (And.intro hqw (And.intro hq1 hl12))
     have HGI := Lh (tabs_GI (φ := φ) (G' := G) hv HA1.out.good)
     clear HA hv hqq hqw hq1 hl12
     first | (have z := zS; clear z; go_enter Tryz.func78, Tryz.ntmps78) | (go_enter Tryz.func40, Tryz.ntmps40)
     generalize hb1 : w.heap.size = b1 at *
     generalize hb2 : w1.heap.size = b2 at *
     generalize hb3 : w2.heap.size = b3 at *
     go_wp2_with (first
      | (go_at_call 22; (with_reducible refine C22.out.mono ?_); rintro e w4 ⟨rfl, g4⟩; have G4 := Lh g4; replace z1 := g4.cell z1; replace f0 := g4.cell f0; replace f1 := g4.cell f1; replace f2 := g4.cell f2; replace f3 := g4.cell f3; replace z3 := g4.cell z3; clear g4 C22 hw1 hw2 hw3)
      | (go_at_call 55; (with_reducible refine (C55.out _ G4.out).mono ?_); rintro e w5 ⟨sa, sn, sc, sW, ok, rfl, g5, hk⟩; obtain ⟨rfl, rfl, hsn, hst⟩ := hk; have G5 := Lh (G4.out.trans g5); replace z1 := g5.cell z1; replace f0 := g5.cell f0; replace f1 := g5.cell f1; replace f2 := g5.cell f2; replace f3 := g5.cell f3; replace z3 := g5.cell z3; have HSt := Lh (And.intro hsn hst); clear g5 C55 hsn hst))
     first | (have z := zS; clear z; go_loopw [17, 39] (fun vp si wr => ∃ (i : Nat) (pa : Option Addr) (pn pc : Nat) (p : List (Tbl SL)) (pw : List Int), si = .int .i64 i ∧ vp = .slice pa pn pc ∧ Hid (i ≤ sn) ∧ Hid (RdPl wr wr pa pn pc p) ∧ Hid (PI R G pw p ∧ planW (wsOf Ts) (l.drop i) pw = some qw ∧ Tb.runT R (tabsOf φ Ts) (l.drop i) p = Tb.runT R (tabsOf φ Ts) l [] ∧ pw.length ≤ i) ∧ Hid (Gr w5 wr)) (fun _ si _ => sn - (intOf si).toNat)) | (go_loopw [17, 39] (fun vp si wr => ∃ (i : Nat) (pa : Option Addr) (pn pc : Nat) (p : List (Tbl Int)) (pw : List Int), si = .int .i64 i ∧ vp = .slice pa pn pc ∧ Hid (i ≤ sn) ∧ Hid (RdPl wr wr pa pn pc p) ∧ Hid (PI R G pw p ∧ planW (wsOf Ts) (l.drop i) pw = some qw ∧ Tb.runT R (tabsOf φ Ts) (l.drop i) p = Tb.runT R (tabsOf φ Ts) l [] ∧ pw.length ≤ i) ∧ Hid (Gr w5 wr)) (fun _ si _ => sn - (intOf si).toNat))
     case atStart => exact ⟨0, none, 0, 0, [], [], rfl, rfl, Lh (Nat.zero_le _), Lh (RdPl.nil _ _), Lh ⟨⟨rfl, fun i hi => by simp at hi⟩, by rw [List.drop_zero]; exact HQW.out.1, by rw [List.drop_zero], Nat.le_refl _⟩, Lh (Gr.refl _)⟩
     case round =>
      obtain ⟨i, pa, pn, pc, p, pw, rfl, rfl, Hi, HP, HI, HG⟩ := hrel
      by_cases hlt : i < sn
      ·have i1 : (i : Int) < (sn : Int) := by omega
       obtain ⟨sb, st, rfl, hx, k0, k1, k2⟩ := (HSt.out.2.gr HG.out).at hlt
       rw [List.getElem?_map] at hx
       obtain ⟨s, hs, rfl⟩ := Option.map_eq_some_iff.1 hx
       obtain ⟨hdl, hse⟩ := List.getElem?_eq_some_iff.1 hs
       have hdr : l.drop i = s :: l.drop (i + 1) := by rw [List.drop_eq_getElem_cons hdl, hse]
       obtain ⟨hP, hpl, hrun, hpw⟩ := HI.out
       rw [hdr] at hpl hrun
       obtain ⟨p', hw', hpl'⟩ := planW_cons hpl
       rw [runT_cons] at hrun
       obtain ⟨wA, hwA⟩ : ∃ wA, wr.alloc (.cells #[.int .i64 (stp s).1, .int .i64 (stp s).2.1, .int .i64 (stp s).2.2] 103) = wA := ⟨_, rfl⟩
       have gA : Gr wr wA := hwA ▸ (Gr.refl wr).alloc _
       obtain ⟨m0, m1, m2⟩ := box_tri wr (stp s).1 (stp s).2.1 (stp s).2.2 103
       rw [hwA] at m0 m1 m2
       have HGA := Lh (HG.out.trans gA)
       have y1 := HGA.out.cell z1
       have y3 := HGA.out.cell z3
       have e0 := HGA.out.cell f0
       have e1 := HGA.out.cell f1
       have e2 := HGA.out.cell f2
       have e3 := HGA.out.cell f3
       have HA2 := Lh (HA1.out.gr ((HG3.out.trans G5.out).trans HGA.out))
       have HX2 := Lh (HX.out.gr ((HG3.out.trans G5.out).trans HGA.out))
       have hn12 : sn ≤ 12 := by rw [HSt.out.1]; exact HQW.out.2.2
       first
       | have z := zS
         clear z
         have C74 := Lh (show Calls Tryz.prog 107 #[.agg #[.func (.func F.p) #[] F.pb, .func (.func F.t) #[] F.tb, .func (.func F.s) #[] F.sb, .func (.func F.f) #[] F.fb], .agg #[.int .i64 (stp s).1, .int .i64 (stp s).2.1, .int .i64 (stp s).2.2], .slice pa pn pc, .func (.func 106) #[] #[.pointer (some ⟨b1, 0, none⟩), .pointer (some ⟨b3, 0, none⟩)]] wA _ from
          step_any F R G μ B wA pa pn pc (wsOf Ts) pw p' (tabsOf φ Ts) p s b1 b3 ((HP.out.gr gA).own) (by have := HP.out.1; have := hP.1; omega) HA2.out.ring HGI.out hP hw' (sum_ok HA2.out HV.out hP HGI.out hw')
           (fun k hk W kW => first_at (HA2.out.gr kW) b1 b3 k a n c Ts (HX2.out.gr kW) HV.out (by
            subst hk
            unfold widW at hw'
            simp only at hw'
            split at hw'
            ·assumption
            cases hw') (kW.cell y1) (kW.cell y3)))
       | have C74 := Lh (show Calls Tryz.prog 74 #[.agg #[.func (.func F.p) #[] F.pb, .func (.func F.t) #[] F.tb, .func (.func F.s) #[] F.sb, .func (.func F.f) #[] F.fb], .agg #[.int .i64 (stp s).1, .int .i64 (stp s).2.1, .int .i64 (stp s).2.2], .slice pa pn pc, .func (.func 72) #[] #[.pointer (some ⟨b1, 0, none⟩), .pointer (some ⟨b3, 0, none⟩)]] wA _ from
          step_any F R G μ B wA pa pn pc (wsOf Ts) pw p' (tabsOf φ Ts) p s b1 b3 ((HP.out.gr gA).own) (by have := HP.out.1; have := hP.1; omega) HA2.out.ring HGI.out hP hw' (sum_ok HA2.out HV.out hP HGI.out hw')
           (fun k hk W kW => first_at (HA2.out.gr kW) b1 b3 k a n c Ts (HX2.out.gr kW) HV.out (by
            subst hk
            unfold widW at hw'
            simp only at hw'
            split at hw'
            ·assumption
            cases hw') (kW.cell y1) (kW.cell y3)))
       have HSP := Lh (fun (ho : okT R (gath R (rowsW R.mul (tabsOf φ Ts) s p)) = true) => step_PI HA2.out.ring.law HGI.out hP hw' ho)
       have HCS := Lh ((cut_same (tabs := tabsOf φ Ts) s HA2.out.ring.law hP (by rw [hP.1]; exact takes_le hw')).2)
       have HLn := Lh (show p'.length ≤ i + 1 by have := wid_len hw'; omega)
       have HPL := Lh hpl'
       have HRN := Lh hrun
       have HLi := Lh hlt
       have w9 := Lh (show wrap64 ((i : Int) + 1) = ((i + 1 : Nat) : Int) by rw [IntWalk.wrap64_in _ (by omega)]; omega)
       clear hx hs hdl hse hdr hP hpl hrun hpw hw' hpl' gA hlt HP HI hn12
       obtain ⟨t, ht⟩ : ∃ t, okT R (gath R (rowsW R.mul (tabsOf φ Ts) s p)) = t := ⟨_, rfl⟩
       rw [ht] at C74 HSP HCS HRN
       clear ht
       cases t with
       | false =>
        have HQ2 := Lh (show resQ R φ true Ts q.data.toList = .error 4 by
         rw [HQ.out]
         unfold ansQ
         rw [← HRN.out]
         rfl)
        clear HSP HCS HRN HPL HLn HQ
        go_wp2_with ((first | go_at_call 74 | go_at_call 107); (with_reducible refine C74.out.mono ?_); rintro e w7 ⟨da, dn, dc, rfl, hd, g7⟩; have G7 := Lh (HGA.out.trans g7); clear g7 hd C74)
        first | (have z := zS; clear z; refine bodyPost_ret (v := .tuple #[.slice none 0 0, .int .i64 0, .int .i64 4]) (by simp [results, Tryz.results78, go_sem]) rfl ?_) | (refine bodyPost_ret (v := .tuple #[.slice none 0 0, .int .i64 0, .int .i64 4]) (by simp [results, Tryz.results40, go_sem]) rfl ?_)
        rw [HQ2.out]
        exact ⟨rfl, (HG3.out.trans G5.out).trans G7.out⟩
       | true =>
        have HS2 := Lh (HSP.out rfl)
        have HC2 := Lh (HCS.out rfl)
        have HR2 := Lh (show Tb.runT R (tabsOf φ Ts) (l.drop (i + 1)) (restW s p ++ [gath R (rowsW R.mul (tabsOf φ Ts) s p)]) = Tb.runT R (tabsOf φ Ts) l [] from HRN.out)
        rw [HC2.out] at C74
        clear HSP HCS HRN HC2
        go_wp2_with ((first | go_at_call 74 | go_at_call 107); (with_reducible refine C74.out.mono ?_); rintro e w7 ⟨da, dn, dc, rfl, hd, g7⟩; have G7 := Lh (HGA.out.trans g7); have HD := Lh hd; have e9 := w9.out; clear g7 hd C74 k0 k1 k2 m0 m1 m2 y1 y3 e0 e1 e2 e3 i1)
        go_roundw
        case rel => exact ⟨i + 1, da, dn, dc, _, p', by first | (rw [e9]) | rfl, rfl, Lh HLi.out, HD, Lh ⟨HS2.out, HPL.out, HR2.out, HLn.out⟩, G7⟩
        case measure => first | (rw [e9]; exact fall HLi.out) | exact fall HLi.out
      have hin : i = sn := by have := Hi.out; omega
      subst hin
      have i1 : ¬ (i : Int) < (i : Int) := by omega
      obtain ⟨hP, hpl, hrun, hpw⟩ := HI.out
      have hd0 : l.drop i = [] := List.drop_eq_nil_of_le (by rw [HSt.out.1]; exact Nat.le_refl _)
      rw [hd0] at hpl hrun
      simp only [planW, Option.some.injEq] at hpl
      subst hpl
      have hp1 : pn = 1 := by have := HP.out.1; have := hP.1; have := HQW.out.2.1; omega
      obtain ⟨gb, go_, ta, tn, tc, rfl, t0, ht⟩ := HP.out.at (k := 0) (by omega)
      rw [Nat.add_zero] at t0
      have HTt := Lh ht
      have HQ2 := Lh (show resQ R φ true Ts q.data.toList = .ok (p.getD 0 [], sW) by
       rw [HQ.out]
       unfold ansQ
       rw [← hrun]
       rfl)
      have j1 : (0 : Int) < (pn : Int) := by omega
      clear hP hrun hpw hd0 ht hlt HI HQ hp1
      go_wp2_with fail
      first | (have z := zS; clear z; refine bodyPost_ret (v := .tuple #[.slice ta tn tc, .int .i64 sW, .int .i64 0]) (by simp [results, Tryz.results78, go_sem]) rfl ?_) | (refine bodyPost_ret (v := .tuple #[.slice ta tn tc, .int .i64 sW, .int .i64 0]) (by simp [results, Tryz.results40, go_sem]) rfl ?_)
      rw [HQ2.out]
      exact ⟨_, _, _, rfl, HTt.out, (HG3.out.trans G5.out).trans HG.out⟩) : P := h
theorem answer_any (F : RF) (R : Rg SL) (G : SL → Prop) (μ : SL → Nat) (B b : Nat) (fn : Nat) (fb : Array Value) (φ : SL → SL) (a : Option Addr) (n c : Nat) (Ts : List (Int × Tbl SL)) (q : ByteArray) (right : Bool) (w : World) (hr : RdWs w a n c Ts) (hz : SzWs Ts) (hq : q.size ≤ 9223372036854775807) (hT : Pow10 w) (hE : Errs w) (hA : right = true → AnsOk F R G μ B b fn fb φ w) :
  Calls Tryz.prog 78 #[.slice a n c, .string q, .bool right, F.val, .func (.func fn) #[] fb] w (RetAns (resQ R φ right Ts q.data.toList) w) := by have zS := trivial; exact scrXFs_answer_any
end Go.Proofs.YtehdemcfeoiecaaGreatDoor.RS
