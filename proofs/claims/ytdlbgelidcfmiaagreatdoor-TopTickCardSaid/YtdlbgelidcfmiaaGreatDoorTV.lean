/- Contracts: strings.Cut at a sign; Format. Contracts of chapter 1: the program's own Parse: its loop's state. Contracts of chapter 1: the program's own Parse. -/
import Derived.Test.YtdlbgelidcfmiaaGreatDoorTU
namespace Go.Proofs.YtdlbgelidcfmiaaGreatDoor
open Go.RowKit Go.Firn Go.Shelf

theorem cut_none {x : Key} (h : (61 : UInt8) ∉ x) : cutA x = x ∧ cutB x = [] := by
  have a : ∀ b ∈ x, (b != (61 : UInt8)) = true := fun b hb => ne_eq fun k => h (by rw [← k]; exact hb)
  have e1 : x.takeWhile (· != 61) = x := by
    have := List.takeWhile_append_of_pos (l₂ := []) a
    simpa using this
  have e2 : x.dropWhile (· != 61) = [] := by
    have := List.dropWhile_append_of_pos (l₂ := []) a
    simpa using this
  unfold cutA cutB
  rw [e1, e2]
  exact ⟨rfl, rfl⟩
theorem cut_some {x : Key} {o : Nat} (h1 : (61 : UInt8) ∉ x.take o) (h2 : x[o]? = some 61) : cutA x = x.take o ∧ cutB x = x.drop (o + 1) := by
  obtain ⟨hl, e⟩ := List.getElem?_eq_some_iff.1 h2
  have ee : x = x.take o ++ 61 :: x.drop (o + 1) := by
    conv => lhs; rw [← List.take_append_drop o x]
    rw [List.drop_eq_getElem_cons hl, e]
  have := cut_word (d := x.take o) (e := x.drop (o + 1)) h1
  rwa [← ee] at this
theorem cut_le (x : Key) : (cutA x).length ≤ x.length ∧ (cutB x).length ≤ x.length := by
  unfold cutA cutB
  have h1 := (List.takeWhile_sublist (l := x) (· != 61)).length_le
  have h2 := (List.dropWhile_sublist (l := x) (· != 61)).length_le
  rw [List.length_drop]
  omega
def RetCut (x : Key) (w : World) (e : Ending) (w' : World) : Prop := ∃ f, e = .returned (.tuple #[.string (bA (cutA x)), .string (bA (cutB x)), .bool f]) ∧ Gr w w'
set_option maxHeartbeats 1000000 in
theorem cut26 (x : Key) (hx : x.length ≤ 1000000) (w : World) : Calls Tryz.prog 53 #[.string (bA x), .string ⟨#[61]⟩] w (RetCut x w) := by
  have C := Lib.hid (show Calls Tryz.prog 74 #[.string (bA x), .string ⟨#[61]⟩] w fun e w' => e = .returned (.int .i64 (Lib.indexByte x 61)) ∧ w = w' from Calls.mono (Any.stringslite_Index_one Tryz.idx38 (bA x) 61 w) fun e w' ⟨h1, h2⟩ => ⟨h1, h2.symm⟩)
  rcases idx_is 61 x with ⟨e1, e2⟩ | ⟨o, e1, e2, e3, e4⟩
  · rw [e1] at C
    obtain ⟨c1, c2⟩ := cut_none e2
    have HC := Lib.hid (And.intro c1 c2)
    clear e1 e2 c1 c2
    go_enter Tryz.func53, Tryz.ntmps53
    go_wp2_with (go_at_call 74; (with_reducible refine C.out.mono ?_); rintro e w6 ⟨rfl, rfl⟩)
    refine bodyPost_ret (v := .tuple #[.string (bA x), .string ⟨#[]⟩, .bool false]) (by simp [results, Tryz.results53, go_sem]) rfl ?_
    exact ⟨false, by rw [HC.out.1, HC.out.2]; rfl, Gr.refl _⟩
  · rw [e1] at C
    obtain ⟨c1, c2⟩ := cut_some e3 e4
    have HC := Lib.hid (And.intro c1 c2)
    have s1 : o < (bA x).size := by rw [bA_size]; exact e2
    have s2 : (bA x).size ≤ 1000000 := by rw [bA_size]; exact hx
    have i0 : (0 : Int) ≤ (o : Int) := by omega
    have i1 : (o : Int) ≤ ((bA x).size : Int) := by omega
    have i2 : (o : Int) + 1 ≤ ((bA x).size : Int) := by omega
    have w2 : IntKind.i64.wrap ((o : Int) + 1) = (o : Int) + 1 := IntWalk.i64_in _ (by omega)
    have i3 : (0 : Int) ≤ (o : Int) + 1 := by omega
    have i4 : ((o : Int) + 1).toNat = o + 1 := by omega
    have EX := Lib.hid (ext_key' x)
    have EZ := Lib.hid (bA_size x)
    clear e1 e2 e3 e4 c1 c2
    go_enter Tryz.func53, Tryz.ntmps53
    go_wp2_with (go_at_call 74; (with_reducible refine C.out.mono ?_); rintro e w6 ⟨rfl, rfl⟩)
    go_region_held3 (fun _ => True) (trivial) (fail)
    go_wp2_with fail
    refine bodyPost_ret (v := .tuple #[.string ((bA x).extract 0 o), .string ((bA x).extract (o + 1) (bA x).size), .bool true]) (by simp [results, Tryz.results53, go_sem]) rfl ?_
    refine ⟨true, ?_, (Gr.refl _).drew⟩
    rw [EX.out, EX.out, HC.out.1, HC.out.2, EZ.out, List.take_of_length_le (l := x.drop (o + 1)) (by rw [List.length_drop]; exact Nat.le_refl _)]
    rfl
theorem Cut_any (x : Key) (hx : x.length ≤ 1000000) (w : World) : Calls Tryz.prog 36 #[.string (bA x), .string ⟨#[61]⟩] w (RetCut x w) := by
  have C := Lib.hid (cut26 x hx w)
  go_enter Tryz.func36, Tryz.ntmps36
  go_wp2_with (go_at_call 53; (with_reducible refine C.out.mono ?_); rintro e w6 ⟨f, rfl, g6⟩; have G6 := Lib.hid g6; clear g6)
  refine bodyPost_ret (v := .tuple #[.string (bA (cutA x)), .string (bA (cutB x)), .bool f]) (by simp [results, Tryz.results36, go_sem]) rfl ?_
  exact ⟨f, rfl, G6.out⟩

/-! ### Format -/
def lsC (f g : Nat → Int) (n : Nat) : CL := (List.range n).map fun i => (f i, g i)
theorem lsC_len (f g : Nat → Int) (n : Nat) : (lsC f g n).length = n := by simp [lsC]
theorem lsC_at {f g : Nat → Int} {n i : Nat} (h : i < n) : f i = px (lsC f g n) i ∧ g i = py (lsC f g n) i := by simp [px, py, lsC, h]
theorem vMk_of (f g : Nat → Int) (n : Nat) : vK n f g = vMk (lsC f g n) := by
  unfold vMk
  rw [lsC_len, Bool.eq_iff_iff, vK_true, vK_true]
  have e : ∀ i, i < n → px (lsC f g n) i = f i ∧ py (lsC f g n) i = g i := fun i hi => ⟨(lsC_at hi).1.symm, (lsC_at hi).2.symm⟩
  constructor
  · rintro ⟨a, b, h1, h2⟩
    refine ⟨a, b, fun i hi => ?_, fun i hi => ?_⟩
    · rw [(e i hi).1, (e i hi).2]; exact h1 i hi
    · rw [(e i (by omega)).1, (e i (by omega)).2, (e (i + 1) hi).1, (e (i + 1) hi).2]; exact h2 i hi
  · rintro ⟨a, b, h1, h2⟩
    refine ⟨a, b, fun i hi => ?_, fun i hi => ?_⟩
    · have := h1 i hi; rwa [(e i hi).1, (e i hi).2] at this
    · have := h2 i hi; rwa [(e i (by omega)).1, (e i (by omega)).2, (e (i + 1) hi).1, (e (i + 1) hi).2] at this
def fmT (v : Bool) (c : CL) : ByteArray := if v = true then bA (txC c) else ⟨#[]⟩
def fmE (v : Bool) : Int := if v = true then 0 else 11
theorem Format_any (a : Option Addr) (cp : Nat) (c : CL) (w : World) (hT : Pow10 w) (hn : c.length ≤ 9223372036854775807) (hr : RdM w a c.length (px c) (py c)) :
    Calls Tryz.prog 13 #[.slice a c.length cp] w (RetTE (fmT (vMk c) c) (fmE (vMk c)) w) := by
  have C1 := Lib.hid (show Calls Tryz.prog 27 #[.slice a c.length cp] w (RetB (vMk c) w) from ValidClock_any a c.length cp (px c) (py c) w hn hr)
  cases hv : vMk c with
  | false =>
    rw [hv] at C1
    clear hv hr hT
    go_enter Tryz.func13, Tryz.ntmps13
    go_wp2_with (go_at_call 27; (with_reducible refine C1.out.mono ?_); rintro e w1 ⟨rfl, g1⟩; have G1 := Lib.hid g1; clear g1)
    refine bodyPost_ret (v := .tuple #[.string ⟨#[]⟩, .int .i64 11]) (by simp [results, Tryz.results13, go_sem]) rfl ?_
    exact ⟨rfl, G1.out⟩
  | true =>
    rw [hv] at C1
    have C2 := Lib.hid (fun wx (k : Gr w wx) => text_any a cp c wx (hT.gr k) hv (hr.gr k))
    show Calls Tryz.prog 13 _ w (RetTE (bA (txC c)) 0 w)
    clear hv hr hT
    generalize bA (txC c) = T at *
    go_enter Tryz.func13, Tryz.ntmps13
    go_wp2_with (first
      | (go_at_call 27; (with_reducible refine C1.out.mono ?_); rintro e w1 ⟨rfl, g1⟩; have G1 := Lib.hid g1; clear g1)
      | (go_at_call 31; (with_reducible refine (C2.out _ G1.out).mono ?_); rintro e w2 ⟨rfl, g2⟩; have G2 := Lib.hid (G1.out.trans g2); clear g2))
    refine bodyPost_ret (v := .tuple #[.string T, .int .i64 0]) (by simp [results, Tryz.results13, go_sem]) rfl ?_
    exact ⟨rfl, G2.out⟩
end Go.Proofs.YtdlbgelidcfmiaaGreatDoor

namespace Go.Proofs.YtdlbgelidcfmiaaGreatDoor
open Go.RowKit Go.Firn Go.Shelf

theorem rdsO_none (L t : List Key) (h : rdsO L = none) : rdsO (L ++ t) = none := by
  induction L with
  | nil => cases h
  | cons q r ih =>
    show rdsO (q :: (r ++ t)) = none
    unfold rdsO at h ⊢
    cases hq : rdO q with
    | none => rfl
    | some x =>
      rw [hq] at h
      cases hr : rdsO r with
      | none => rw [ih hr]; rfl
      | some d => rw [hr] at h; cases h

/-- A cell that may be written. -/
def Bx (W : World) (b : Nat) (v : Value) : Prop := W.cell? ⟨b, 0, none⟩ = some v ∧ W.frozen? ⟨b, 0, none⟩ = false
theorem Bx.gr {W W' : World} {b : Nat} {v : Value} (h : Bx W b v) (g : Gr W W') : Bx W' b v := ⟨g.cell h.1, (Below.frozen g (World.block_lt_of_cell? W _ h.1)).trans h.2⟩
theorem Bx.put {W : World} {b : Nat} {v u : Value} (h : Bx W b v) : Bx (W.setCell ⟨b, 0, none⟩ u) b u := ⟨World.cell?_setCell_same _ _ _ h.1, by rw [World.frozen?_setCell]; exact h.2⟩
theorem Bx.far {W : World} {b k : Nat} {v u : Value} (h : Bx W b v) (hk : k ≠ b) : Bx (W.setCell ⟨k, 0, none⟩ u) b v := ⟨by rw [World.cell?_setCell_other _ _ _ _ (fun e => hk (congrArg Addr.block e))]; exact h.1, by rw [World.frozen?_setCell]; exact h.2⟩
theorem Bx.own {W W' : World} {b : Nat} {v : Value} {row : Option Nat} (h : Bx W b v) (hg : W.grownBy W' row) (hr : ∀ r, row = some r → ∃ o : Obj, W.heap[r]? = some o ∧ o.isCells = false) : Bx W' b v :=
  ⟨cell_kept h.1 hg hr, (frozen_kept h.1 hg hr).trans h.2⟩
theorem Bx.grown {W W' : World} {b : Nat} {v : Value} {row : Option Nat} (h : Bx W b v) (hg : W.grownBy W' row) (hne : row ≠ some b) : Bx W' b v := by
  have := grown_box hg h.1 hne
  exact ⟨this.1, this.2.trans h.2⟩

/-- The loop's state: the marks so far, and the results' cells. -/
structure It (w : World) (pre : List Key) (W : World) (ms : CL) (a : Option Addr) (c : Nat) : Prop where
  rd : rdsO pre = some ms
  x4 : Bx W (w.heap.size + 2) (.slice a ms.length c)
  x2 : Bx W w.heap.size (.slice none 0 0)
  x3 : Bx W (w.heap.size + 1) (.int .i64 0)
  row : W.ownsRow (w.heap.size + 6) 55 2 (.slice a ms.length c) ms.length (pm ms)
  top : w.heap.size + 6 ≤ W.heap.size
  gr : Gr w W
def Ip (w : World) (pre : List Key) (W : World) : Prop := ∃ ms a c, It w pre W ms a c
/-- Left: what is read is no mark. -/
def Ix (w : World) (c : Code) (pre : List Key) (W : World) : Prop := c = .ret ∧ rdsO pre = none ∧ Bx W w.heap.size (.slice none 0 0) ∧ Bx W (w.heap.size + 1) (.int .i64 3) ∧ Gr w W
theorem own_blk {w : World} {base e n : Nat} {v : Value} {xs : List Value} (h : w.ownsRow base e 2 v n xs) : ∀ k, v.ownBlock = some k → base ≤ k ∧ ∃ o : Obj, w.heap[k]? = some o ∧ o.isCells = true := fun k e => by
  obtain ⟨o, ho, hc, hb⟩ := own_not h e
  exact ⟨hb, o, ho, hc⟩
theorem Ip.own {w : World} {B : Nat} (hB : w.heap.size ≤ B) : OwnFrom B (Ip w) := by
  rintro pre X Y row ⟨ms, a, c, h⟩ hg hr
  have hrow : ∀ r, row = some r → ∃ o : Obj, X.heap[r]? = some o ∧ o.isCells = false := fun r e => (hr r e).2
  refine ⟨ms, a, c, h.rd, h.x4.own hg hrow, h.x2.own hg hrow, h.x3.own hg hrow, h.row.kept hg ?_, Nat.le_trans h.top hg.size, h.gr.grown hg fun k e => Nat.le_trans hB (hr k e).1⟩
  cases hv : (Value.slice a ms.length c).ownBlock with
  | none => exact .inl rfl
  | some b =>
    right
    intro e
    obtain ⟨o, ho, hc, _⟩ := own_not h.row hv
    obtain ⟨o', ho', hc'⟩ := hrow b e.symm
    rw [ho] at ho'
    cases ho'
    rw [hc] at hc'
    cases hc'
theorem Ix.own {w : World} {B : Nat} (hB : w.heap.size ≤ B) (c : Code) : OwnFrom B (Ix w c) := by
  rintro pre X Y row ⟨h0, h1, h2, h3, h4⟩ hg hr
  have hrow : ∀ r, row = some r → ∃ o : Obj, X.heap[r]? = some o ∧ o.isCells = false := fun r e => (hr r e).2
  exact ⟨h0, h1, h2.own hg hrow, h3.own hg hrow, h4.grown hg fun k e => Nat.le_trans hB (hr k e).1⟩
theorem Ip.wb {w : World} {pre : List Key} {A B : World} (h : Ip w pre A) (k : WbS (w.heap.size + 3) A B) : Ip w pre B := by
  obtain ⟨t, u, hu, rfl⟩ := k
  obtain ⟨ms, a, c, h⟩ := h
  have hg : A.grownBy (A.setCell ⟨w.heap.size + 3, 0, none⟩ (.string t)) (some (w.heap.size + 3)) := ((Wr.refl _ A).set 0 _ : Wr _ A _)
  refine ⟨ms, a, c, h.rd, h.x4.far (by omega), h.x2.far (by omega), h.x3.far (by omega), h.row.kept hg ?_, by have := h.top; simpa using this, h.gr.setCell (p := ⟨w.heap.size + 3, 0, none⟩) (by dsimp only; omega) _⟩
  cases hv : (Value.slice a ms.length c).ownBlock with
  | none => exact .inl rfl
  | some b =>
    right
    intro e
    obtain ⟨hb, _⟩ := own_blk h.row b hv
    cases e
    omega
theorem wpListIn_app_pairR {F : Fence} {n : Nat} {ops : Array Oper} {rest : List Oper} {o : Oper} {a : Act} {Q : Exit → Act → World → Prop} (hgd : o.guard = none) (s x : Operand)
    (ho : o.op = .call { callee := .builtin .append, args := #[s, x], argTypes := #[23, 23] })
    {base : Nat} {w : World} (v : Value) (ms : CL) (hs : a.eval s = v) (hown : w.ownsRow base 55 2 v ms.length (pm ms)) (hb : base ≤ w.heap.size)
    (g : Nat) (p q : Int) (hx : a.eval x = .slice (some ⟨g, 0, none⟩) 1 1) (hg : w.cell? ⟨g, 0, none⟩ = some (.int .i64 p) ∧ w.cell? ⟨g, 1, none⟩ = some (.int .i64 q)) (hk : ms.length < 999999)
    (h : ∀ a' c' w', w'.ownsRow base 55 2 (.slice a' (ms.length + 1) c') (ms.length + 1) (pm (ms ++ [(p, q)])) → w.grownBy w' v.ownBlock → wpListIn F n Tryz.prog ops Q rest (a.put o.dst (.slice a' (ms.length + 1) c')) w') : wpListIn F n Tryz.prog ops Q (o :: rest) a w := by
  obtain ⟨i0, hi, hz0, hz1, hz2⟩ := info_pair (P := Tryz.prog) (e := 55) (by kernel_rfl)
  refine wpListIn_append_own w hgd s x 23 ho base 55 i0 _ 2 16 Tryz.underlying23 hi hz0 hz1 hz2 rfl (by decide) v ms.length (pm ms) hs hown ⟨g, 0, none⟩ 1 1 [.int .i64 p, .int .i64 q] hx rfl ?_ ?_ (by unfold maxLen; omega) (by omega) hb ?_
  · intro j u hu
    rw [add_flat rfl]
    match j, hu with
    | 0, hu => simp at hu; subst hu; exact hg.1
    | 1, hu => simp at hu; subst hu; exact hg.2
    | j + 2, hu => simp at hu
  · intro u hu
    simp at hu
    rcases hu with rfl | rfl <;> rfl
  · intro v' w' h1 h2 _
    have hv := h1.2
    rcases hv with ⟨_, hz⟩ | ⟨g', cap, cur, rfl, _⟩
    · omega
    · refine h _ _ w' ?_ h2
      rw [pm_append]
      exact h1
/-- One round's end. -/
theorem Ip.step {w W w3 w5 : World} {pre : List Key} {x : Key} {ms : CL} {a : Option Addr} {c : Nat} {a' : Option Addr} {c' : Nat} {p q : Int} (g : Gr W w3) (h : It w pre W ms a c)
    (hO : w5.ownsRow (w.heap.size + 6) 55 2 (.slice a' (ms.length + 1) c') (ms.length + 1) (pm (ms ++ [(p, q)]))) (hG : w3.grownBy w5 (Value.slice a ms.length c).ownBlock) (hx : rdO x = some (p, q)) :
    KeepsOthers W (w5.setCell ⟨w.heap.size + 2, 0, none⟩ (.slice a' (ms.length + 1) c')) ∧ Kb (fun k => k = w.heap.size + 3 ∨ k = w.heap.size + 4 ∨ k = w.heap.size + 5) W (w5.setCell ⟨w.heap.size + 2, 0, none⟩ (.slice a' (ms.length + 1) c')) ∧ Ip w (pre ++ [x]) (w5.setCell ⟨w.heap.size + 2, 0, none⟩ (.slice a' (ms.length + 1) c')) := by
  have hrow := own_blk h.row
  have far : ∀ b, b < w.heap.size + 6 → (Value.slice a ms.length c).ownBlock ≠ some b := fun b hb e => by have := (hrow b e).1; omega
  have hgg : w5.grownBy (w5.setCell ⟨w.heap.size + 2, 0, none⟩ (.slice a' (ms.length + 1) c')) (some (w.heap.size + 2)) := ((Wr.refl _ w5).set 0 _ : Wr _ w5 _)
  have e1 : (ms ++ [(p, q)]).length = ms.length + 1 := by simp
  refine ⟨((KeepsOthers.gr g).trans (KeepsOthers.of_grownBy hG fun j o e ho => ?_)).trans (KeepsOthers.setCell _ _ _), ?_, ms ++ [(p, q)], a', c', ?_, ?_, ?_, ?_, ?_, ?_, ?_⟩
  · obtain ⟨_, o2, ho2, hc2⟩ := hrow j e
    have := Below.block g j (Array.getElem?_eq_some_iff.1 ho2).1
    rw [this, ho2] at ho
    cases ho
    exact hc2
  · intro p u hp e
    have hpb : p.block < w.heap.size + 6 := by rcases hp with h | h | h <;> omega
    have hne : (⟨w.heap.size + 2, 0, none⟩ : Addr) ≠ p := by
      rintro rfl
      rcases hp with h | h | h <;> (dsimp only at h; omega)
    have k3 := g.cell e
    have hb5 := hG.block p.block (World.block_lt_of_cell? w3 _ k3) (fun e => far _ hpb e.symm)
    rw [World.cell?_setCell_other _ _ _ _ hne, World.frozen?_setCell]
    exact ⟨(World.cell?_of_block hb5).trans k3, (World.frozen?_of_block hb5).trans (Below.frozen g (World.block_lt_of_cell? W _ e))⟩
  · rw [rdsO_snoc _ _ _ h.rd, hx]; rfl
  · rw [e1]; exact ((h.x4.gr g).grown hG (far _ (by omega))).put
  · exact ((h.x2.gr g).grown hG (far _ (by omega))).far (by omega)
  · exact ((h.x3.gr g).grown hG (far _ (by omega))).far (by omega)
  · rw [e1]
    refine hO.kept hgg ?_
    cases hv : (Value.slice a' (ms.length + 1) c').ownBlock with
    | none => exact .inl rfl
    | some k =>
      right
      intro e
      obtain ⟨hb, _⟩ := own_blk hO k hv
      cases e
      omega
  · have h1 := g.size
    have h2 := hG.size
    have := h.top
    simp
    omega
  · refine Gr.setCell ?_ (p := ⟨w.heap.size + 2, 0, none⟩) (by dsimp only; omega) _
    exact (h.gr.trans g).grown hG fun k e => by have := (hrow k e).1; omega
/-- One round that leaves. -/
theorem Ix.leave {w W w3 : World} {pre : List Key} {x : Key} {ms : CL} {a : Option Addr} {c : Nat} (g : Gr W w3) (h : It w pre W ms a c) (hx : rdO x = none) :
    KeepsOthers W ((w3.setCell ⟨w.heap.size, 0, none⟩ (.slice none 0 0)).setCell ⟨w.heap.size + 1, 0, none⟩ (.int .i64 3)) ∧ Ix w .ret (pre ++ [x]) ((w3.setCell ⟨w.heap.size, 0, none⟩ (.slice none 0 0)).setCell ⟨w.heap.size + 1, 0, none⟩ (.int .i64 3)) := by
  refine ⟨((KeepsOthers.gr g).trans (KeepsOthers.setCell _ _ _)).trans (KeepsOthers.setCell _ _ _), rfl, ?_, ?_, ?_, ?_⟩
  · rw [rdsO_snoc _ _ _ h.rd, hx]; rfl
  · exact (h.x2.gr g).put.far (by omega)
  · exact ((h.x3.gr g).far (by omega)).put
  · exact ((h.gr.trans g).setCell (p := ⟨w.heap.size, 0, none⟩) (by dsimp only; omega) _).setCell (p := ⟨w.heap.size + 1, 0, none⟩) (by dsimp only; omega) _
theorem rd_ownM {w : World} {base e : Nat} {v : Value} {ms : CL} (h : w.ownsRow base e 2 v ms.length (pm ms)) : ∃ a c, v = .slice a ms.length c ∧ ms.length ≤ c ∧ c ≤ maxLen ∧ RdM w a ms.length (px ms) (py ms) := by
  have h0 := h
  obtain ⟨hl, hv⟩ := h
  rcases hv with ⟨rfl, hz⟩ | ⟨g, cap, cur, rfl, hb, hg, hnc, hcm, hcs, htake⟩
  · rw [hz]
    exact ⟨none, 0, rfl, Nat.le_refl _, by unfold maxLen; omega, .inl rfl⟩
  · refine ⟨_, _, rfl, hnc, hcm, .inr ⟨g, 0, rfl, fun i hi => ?_⟩⟩
    obtain ⟨p0, p1⟩ := pm_at ms i hi
    have c0 := h0.cells (g := g) rfl _ _ p0
    have c1 := h0.cells (g := g) rfl _ _ p1
    rw [add_flat rfl] at c0 c1
    exact ⟨c0, by rw [Nat.add_assoc]; exact c1⟩
end Go.Proofs.YtdlbgelidcfmiaaGreatDoor

namespace Go.Proofs.YtdlbgelidcfmiaaGreatDoor
open Go.RowKit Go.Firn Go.Shelf
attribute [local go_sem] Oper.semAt_some
attribute [local simp] wide_fn

theorem piece_of {s : ByteArray} {p : Key} (h : p ∈ splitK 32 s.data.toList) : p.length ≤ s.size := by
  have := piece_le h
  rwa [size_key] at this
theorem split_few (s : ByteArray) : (splitK 32 s.data.toList).length ≤ s.size + 1 := by
  have := split_len 32 s.data.toList
  rwa [size_key] at this
theorem row_put {W : World} {base n D : Nat} {v : Value} {xs : List Value} (h : W.ownsRow base 55 2 v n xs) (hd : W.heap[D]? = some (.deferred (some []))) : (W.putObj D (.deferred none)).ownsRow base 55 2 v n xs := own_put h hd
theorem Bx.fin {W : World} {b D : Nat} {v : Value} (h : Bx W b v) (hd : W.heap[D]? = some (.deferred (some []))) : (W.putObj D (.deferred none)).cell? ⟨b, 0, none⟩ = some v :=
  (h.own (grownBy_putObj' W D _) (fun r er => by cases er; exact ⟨_, hd, rfl⟩)).1
theorem RdM.putObj {W : World} {a : Option Addr} {n D : Nat} {f g : Nat → Int} (h : RdM W a n f g) (hd : W.heap[D]? = some (.deferred (some []))) : RdM (W.putObj D (.deferred none)) a n f g := by
  rcases h with h | ⟨b, o, e, hc⟩
  · exact .inl h
  · refine .inr ⟨b, o, e, fun i hi => ?_⟩
    have k : ∀ r, some D = some r → ∃ o : Obj, W.heap[r]? = some o ∧ o.isCells = false := fun r er => by cases er; exact ⟨_, hd, rfl⟩
    exact ⟨cell_kept (hc i hi).1 (grownBy_putObj' W D _) k, cell_kept (hc i hi).2 (grownBy_putObj' W D _) k⟩
theorem row_set {W : World} {base n b : Nat} {v u : Value} {xs : List Value} (h : W.ownsRow base 55 2 v n xs) (hb : b < base) : (W.setCell ⟨b, 0, none⟩ u).ownsRow base 55 2 v n xs := by
  have hgg : W.grownBy (W.setCell ⟨b, 0, none⟩ u) (some b) := ((Wr.refl _ W).set 0 _ : Wr _ W _)
  refine h.kept hgg ?_
  cases hv : v.ownBlock with
  | none => exact .inl rfl
  | some k =>
    right
    intro e
    obtain ⟨hk, _⟩ := own_blk h k hv
    cases e
    omega
/-- The results are stored, and the loop's deferred calls taken. -/
theorem fin_res {w W : World} {D : Nat} {u2 u3 v : Value} {E : Int} (hw : w.heap.size + 6 ≤ D) (g : Gr w W) (x2 : Bx W w.heap.size u2) (x3 : Bx W (w.heap.size + 1) u3) (hd : W.heap[D]? = some (.deferred (some []))) :
    ((W.setCell ⟨w.heap.size, 0, none⟩ v).setCell ⟨w.heap.size + 1, 0, none⟩ (.int .i64 E)).heap[D]? = some (.deferred (some [])) ∧
    (((W.setCell ⟨w.heap.size, 0, none⟩ v).setCell ⟨w.heap.size + 1, 0, none⟩ (.int .i64 E)).putObj D (.deferred none)).cell? ⟨w.heap.size, 0, none⟩ = some v ∧
    (((W.setCell ⟨w.heap.size, 0, none⟩ v).setCell ⟨w.heap.size + 1, 0, none⟩ (.int .i64 E)).putObj D (.deferred none)).cell? ⟨w.heap.size + 1, 0, none⟩ = some (.int .i64 E) ∧
    Gr w (((W.setCell ⟨w.heap.size, 0, none⟩ v).setCell ⟨w.heap.size + 1, 0, none⟩ (.int .i64 E)).putObj D (.deferred none)) := by
  have h1 : (W.setCell ⟨w.heap.size, 0, none⟩ v).heap[D]? = some (.deferred (some [])) := (Below.heap_setCell _ _ _ _ (by dsimp only; omega)).trans hd
  have h2 : ((W.setCell ⟨w.heap.size, 0, none⟩ v).setCell ⟨w.heap.size + 1, 0, none⟩ (.int .i64 E)).heap[D]? = some (.deferred (some [])) := (Below.heap_setCell _ _ _ _ (by dsimp only; omega)).trans h1
  have y2 : Bx ((W.setCell ⟨w.heap.size, 0, none⟩ v).setCell ⟨w.heap.size + 1, 0, none⟩ (.int .i64 E)) w.heap.size v := x2.put.far (by omega)
  have y3 : Bx ((W.setCell ⟨w.heap.size, 0, none⟩ v).setCell ⟨w.heap.size + 1, 0, none⟩ (.int .i64 E)) (w.heap.size + 1) (.int .i64 E) := (x3.far (by omega)).put
  exact ⟨h2, y2.fin h2, y3.fin h2, gr_put ((g.setCell (p := ⟨w.heap.size, 0, none⟩) (by dsimp only; omega) _).setCell (p := ⟨w.heap.size + 1, 0, none⟩) (by dsimp only; omega) _) (by omega)⟩
theorem RetMs.none {w w' : World} (g : Gr w w') (E : Int) : RetMs [] E w (.returned (.tuple #[.slice none 0 0, .int .i64 E])) w' := ⟨Option.none, 0, rfl, Nat.le_refl _, by unfold maxLen; omega, .inl rfl, g⟩

set_option maxHeartbeats 16000000 in
set_option maxRecDepth 100000 in
theorem Parse_in (s : ByteArray) (w : World) (hs : s.size ≤ 420) (hT : Pow10 w) (hE : Errs w) :
    Calls Tryz.prog 15 #[.string s] w (RetMs (prO s.data.toList).1 (prO s.data.toList).2 w) := by
  have HPo := Lib.hid (show ∀ ms, rdsO (splitK 32 s.data.toList) = some ms → prO s.data.toList = if vMk ms = true ∧ txC ms = s.data.toList then (ms, 0) else ([], 3) from fun ms h => by
    unfold prO
    rw [if_neg (by rw [size_key]; omega), h])
  have HPn := Lib.hid (show rdsO (splitK 32 s.data.toList) = none → prO s.data.toList = ([], 3) from fun h => by
    unfold prO
    rw [if_neg (by rw [size_key]; omega), h])
  have HS := Lib.hid hs
  have HT := Lib.hid hT
  have HE := Lib.hid hE
  have i7 : ¬ ((s.size : Int) > 420) := by omega
  clear hs hT hE
  refine (callsIn_wide (n := 3)).1 ?_
  refine callsIn_of_wp_marks Tryz.func15 rfl trivial ?_ rfl
  simp only [Tryz.ntmps15, List.size_toArray, List.length_cons, List.length_nil, Nat.reduceAdd, Nat.reduceSub, Array.replicate_succ, Array.replicate_zero, List.push_toArray, List.append_toArray, List.nil_append, List.cons_append]
  gi_wp2_with (gi_at_call 35; refine (callsIn_wide.2 (SplitSeq_any _ _ _)).mono ?_; rintro e w4 ⟨rfl, rfl⟩)
  have q0 : Bx (w.alloc (.cells #[.slice none 0 0] 23)) w.heap.size (.slice none 0 0) := (Gr.refl _).fresh' rfl rfl
  generalize hV0 : w.alloc (.cells #[.slice none 0 0] 23) = V0 at *
  have S0 : V0.heap.size = w.heap.size + 1 := by rw [← hV0]; simp
  have T0 : Gr w V0 := by rw [← hV0]; exact (Gr.refl _).alloc _
  have q1 : Bx (V0.alloc (.cells #[.int .i64 0] 27)) V0.heap.size (.int .i64 0) := (Gr.refl _).fresh' rfl rfl
  generalize hV1 : V0.alloc (.cells #[.int .i64 0] 27) = V1 at *
  have S1 : V1.heap.size = V0.heap.size + 1 := by rw [← hV1]; simp
  have T1 : Gr V0 V1 := by rw [← hV1]; exact (Gr.refl _).alloc _
  have q2 : Bx (V1.alloc (.cells #[.slice none 0 0] 23)) V1.heap.size (.slice none 0 0) := (Gr.refl _).fresh' rfl rfl
  generalize hV2 : V1.alloc (.cells #[.slice none 0 0] 23) = V2 at *
  have S2 : V2.heap.size = V1.heap.size + 1 := by rw [← hV2]; simp
  have T2 : Gr V1 V2 := by rw [← hV2]; exact (Gr.refl _).alloc _
  have q3 : Bx (V2.alloc (.cells #[.string s] 9)) V2.heap.size (.string s) := (Gr.refl _).fresh' rfl rfl
  generalize hV3 : V2.alloc (.cells #[.string s] 9) = V3 at *
  have S3 : V3.heap.size = V2.heap.size + 1 := by rw [← hV3]; simp
  have T3 : Gr V2 V3 := by rw [← hV3]; exact (Gr.refl _).alloc _
  have q4 : Bx (V3.alloc (.cells #[.string ⟨#[32]⟩] 9)) V3.heap.size (.string ⟨#[32]⟩) := (Gr.refl _).fresh' rfl rfl
  generalize hV4 : V3.alloc (.cells #[.string ⟨#[32]⟩] 9) = V4 at *
  have S4 : V4.heap.size = V3.heap.size + 1 := by rw [← hV4]; simp
  have T4 : Gr V3 V4 := by rw [← hV4]; exact (Gr.refl _).alloc _
  have q5 : Bx (V4.alloc (.cells #[.int .i64 0] 3)) V4.heap.size (.int .i64 0) := (Gr.refl _).fresh' rfl rfl
  generalize hV5 : V4.alloc (.cells #[.int .i64 0] 3) = V5 at *
  have S5 : V5.heap.size = V4.heap.size + 1 := by rw [← hV5]; simp
  have T5 : Gr V4 V5 := by rw [← hV5]; exact (Gr.refl _).alloc _
  have G0 := Lib.hid (((((T0.trans T1).trans T2).trans T3).trans T4).trans T5)
  have B2 := Lib.hid (q0.gr ((((T1.trans T2).trans T3).trans T4).trans T5))
  have B3 := Lib.hid (q1.gr (((T2.trans T3).trans T4).trans T5))
  have B4 := Lib.hid (q2.gr ((T3.trans T4).trans T5))
  have B5 := Lib.hid (q3.gr (T4.trans T5))
  have B6 := Lib.hid (q4.gr T5)
  have B7 := Lib.hid q5
  rw [show V0.heap.size = w.heap.size + 1 by omega] at B3
  rw [show V1.heap.size = w.heap.size + 2 by omega] at B4
  rw [show V2.heap.size = w.heap.size + 3 by omega] at B5
  rw [show V3.heap.size = w.heap.size + 4 by omega] at B6
  rw [show V4.heap.size = w.heap.size + 5 by omega] at B7
  have Z1 : V0.heap.size = w.heap.size + 1 := S0
  have Z2 : V1.heap.size = w.heap.size + 2 := by omega
  have Z3 : V2.heap.size = w.heap.size + 3 := by omega
  have Z9 : V5.heap.size = w.heap.size + 6 := by omega
  clear hV0 hV1 hV2 hV3 hV4 hV5 q0 q1 q2 q3 q4 q5 T0 T1 T2 T3 T4 T5 S0 S1 S2 S3 S4 S5
  have I0 : Ip w [] V5 := ⟨[], none, 0, rfl, B4.out, B2.out, B3.out, World.ownsRow_nil _ _ _ _, by omega, G0.out⟩
  refine rangeFunc_wr rfl (by omega) (gf := 71) (lb := #[.pointer (some ⟨w.heap.size + 4, 0, none⟩), .pointer (some ⟨w.heap.size + 3, 0, none⟩), .pointer (some ⟨w.heap.size + 5, 0, none⟩)]) rfl trivial (enters_of Tryz.func71 (by kernel_rfl) rfl)
    (splitSeq1_seq _ (by omega) (w.heap.size + 3) (w.heap.size + 4) (w.heap.size + 5) (by omega) (by omega) 32 s V5 (by have := HS.out; omega) B6.out.1 B5.out.1 B5.out.2 B7.out.1)
    Kb.trans (fun W l o o' _ h hc _ => Kb.putObj W l o o' h hc) (fun A B h => h.keeps) (Below.refl _ _) (fun _ => rfl)
    (Ip w) (Ix w) (Ip.own (by omega)) (fun pre A B h k => Ip.wb h k) (fun c => Ix.own (by omega) c) I0
    (fun x => { tmps := #[.string s, undef, .pointer (some ⟨w.heap.size, 0, none⟩), .pointer (some ⟨w.heap.size + 1, 0, none⟩), .pointer (some ⟨w.heap.size + 2, 0, none⟩), .string (bA x), undef, undef, undef, undef, undef, undef, .string s, .int .i64 s.size, .bool false, .string s, .func (.func 71) #[] #[.pointer (some ⟨w.heap.size + 4, 0, none⟩), .pointer (some ⟨w.heap.size + 3, 0, none⟩), .pointer (some ⟨w.heap.size + 5, 0, none⟩)], .string (bA x), undef, undef, undef, undef, undef, undef, undef, undef, undef, undef, undef, undef, undef, undef, undef, undef, undef, undef, undef, undef, undef, undef, undef, undef, undef, undef, undef, undef, undef, undef, undef, undef, undef, undef, undef, undef], defers := [] }) ?assign ?body ?done ?stop
  case assign =>
    intro l x W K hK
    unfold encK
    gi_wp2
    exact hK
  case body =>
    rintro l pre x W ⟨ms, a, c, hI⟩ hx hl
    have HI := Lib.hid hI
    have X2 := Lib.hid hI.x2
    have X3 := Lib.hid hI.x3
    have X4 := Lib.hid hI.x4
    have RW := Lib.hid hI.row
    have TP := Lib.hid hI.top
    have GW := Lib.hid hI.gr
    have HK := Lib.hid (show ms.length < 999999 by rw [rdsO_len hI.rd]; have := HS.out; omega)
    have FR := Lib.hid (show ∀ b, b < w.heap.size + 6 → (Value.slice a ms.length c).ownBlock ≠ some b from fun b hb e => by have := (own_blk hI.row b e).1; omega)
    have HX := Lib.hid hx
    have HC := Lib.hid (cut_le x)
    have C17 := Lib.hid (fun wx => Cut_any x hx wx)
    clear hI hx hl I0 B2 B3 B4 B5 B6 B7 G0
    rcases ha : Lib.atoiAll (cutA x) with va | _ | _
    · have CA := Lib.hid (fun wx (_ : Gr W wx) => atoi_yes (cutA x) va ha (Nat.le_trans HC.out.1 HX.out) wx)
      rcases hb : Lib.atoiAll (cutB x) with vb | _ | _
      · have HR := Lib.hid (show rdO x = some (va, vb) by unfold rdO; rw [ha, hb])
        have CB := Lib.hid (fun wx (_ : Gr W wx) => atoi_yes (cutB x) vb hb (Nat.le_trans HC.out.2 HX.out) wx)
        have BG := Lib.hid (fun (A : World) (k : Gr W A) => k.trans ((Gr.refl A).alloc (.cells #[.int .i64 va, .int .i64 vb] 55)))
        gi_wp2_with (first
          | (gi_at_call 36; (refine (callsIn_wide.2 (C17.out _)).mono ?_); rintro e w1 ⟨f1, rfl, g1⟩; have G1 := Lib.hid g1; obtain ⟨y2, z2⟩ := X2.out.gr g1; obtain ⟨y3, z3⟩ := X3.out.gr g1; obtain ⟨y4, z4⟩ := X4.out.gr g1; clear g1)
          | (gi_at_call 37; (refine (callsIn_wide.2 (CA.out _ G1.out)).mono ?_); rintro e w2 ⟨rfl, g2⟩; have G2 := Lib.hid (G1.out.trans g2); obtain ⟨y2, z2⟩ := X2.out.gr G2.out; obtain ⟨y3, z3⟩ := X3.out.gr G2.out; obtain ⟨y4, z4⟩ := X4.out.gr G2.out; clear g2 CA)
          | (gi_at_call 37; (refine (callsIn_wide.2 (CB.out _ G2.out)).mono ?_); rintro e w3 ⟨rfl, g3⟩; have G3 := Lib.hid (G2.out.trans g3); obtain ⟨y2, z2⟩ := X2.out.gr G3.out; obtain ⟨y3, z3⟩ := X3.out.gr G3.out; obtain ⟨y4, z4⟩ := X4.out.gr G3.out; clear g3 CB)
          | (gi_at_builtin; (refine wpListIn_app_pairR rfl _ _ rfl _ ms rfl (rows_gr RW.out (BG.out _ G3.out)) (Nat.le_trans TP.out (BG.out _ G3.out).size) _ _ _ rfl (box_ii _ _ _ 55) HK.out ?_; intro a' c' w5 hO hG; obtain ⟨y4, z4⟩ := (X4.out.gr (BG.out _ G3.out)).grown hG (FR.out _ (by omega)); have HO := Lib.hid hO; have HG := Lib.hid hG; clear hO hG)))
        exact Ip.step (BG.out _ G3.out) HI.out HO.out HG.out HR.out
      · have HR := Lib.hid (show rdO x = none by unfold rdO; rw [ha, hb])
        have CB := Lib.hid (fun wx (k : Gr W wx) => atoi_not (cutB x) (fun v e => by rw [hb] at e; cases e) (Nat.le_trans HC.out.2 HX.out) wx (HE.out.gr (GW.out.trans k)))
        gi_wp2_with (first
          | (gi_at_call 36; (refine (callsIn_wide.2 (C17.out _)).mono ?_); rintro e w1 ⟨f1, rfl, g1⟩; have G1 := Lib.hid g1; obtain ⟨y2, z2⟩ := X2.out.gr g1; obtain ⟨y3, z3⟩ := X3.out.gr g1; obtain ⟨y4, z4⟩ := X4.out.gr g1; clear g1)
          | (gi_at_call 37; (refine (callsIn_wide.2 (CA.out _ G1.out)).mono ?_); rintro e w2 ⟨rfl, g2⟩; have G2 := Lib.hid (G1.out.trans g2); obtain ⟨y2, z2⟩ := X2.out.gr G2.out; obtain ⟨y3, z3⟩ := X3.out.gr G2.out; obtain ⟨y4, z4⟩ := X4.out.gr G2.out; clear g2 CA)
          | (gi_at_call 37; (refine (callsIn_wide.2 (CB.out _ G2.out)).mono ?_); rintro e w3 ⟨⟨n0, N0, rfl⟩, g3⟩; have G3 := Lib.hid (G2.out.trans g3); obtain ⟨y2, z2⟩ := X2.out.gr G3.out; obtain ⟨y3, z3⟩ := X3.out.gr G3.out; obtain ⟨y4, z4⟩ := X4.out.gr G3.out; clear g3 CB))
        exact Ix.leave G3.out HI.out HR.out
      · have HR := Lib.hid (show rdO x = none by unfold rdO; rw [ha, hb])
        have CB := Lib.hid (fun wx (k : Gr W wx) => atoi_not (cutB x) (fun v e => by rw [hb] at e; cases e) (Nat.le_trans HC.out.2 HX.out) wx (HE.out.gr (GW.out.trans k)))
        gi_wp2_with (first
          | (gi_at_call 36; (refine (callsIn_wide.2 (C17.out _)).mono ?_); rintro e w1 ⟨f1, rfl, g1⟩; have G1 := Lib.hid g1; obtain ⟨y2, z2⟩ := X2.out.gr g1; obtain ⟨y3, z3⟩ := X3.out.gr g1; obtain ⟨y4, z4⟩ := X4.out.gr g1; clear g1)
          | (gi_at_call 37; (refine (callsIn_wide.2 (CA.out _ G1.out)).mono ?_); rintro e w2 ⟨rfl, g2⟩; have G2 := Lib.hid (G1.out.trans g2); obtain ⟨y2, z2⟩ := X2.out.gr G2.out; obtain ⟨y3, z3⟩ := X3.out.gr G2.out; obtain ⟨y4, z4⟩ := X4.out.gr G2.out; clear g2 CA)
          | (gi_at_call 37; (refine (callsIn_wide.2 (CB.out _ G2.out)).mono ?_); rintro e w3 ⟨⟨n0, N0, rfl⟩, g3⟩; have G3 := Lib.hid (G2.out.trans g3); obtain ⟨y2, z2⟩ := X2.out.gr G3.out; obtain ⟨y3, z3⟩ := X3.out.gr G3.out; obtain ⟨y4, z4⟩ := X4.out.gr G3.out; clear g3 CB))
        exact Ix.leave G3.out HI.out HR.out
    · have HR := Lib.hid (show rdO x = none by unfold rdO; rw [ha])
      have CA := Lib.hid (fun wx (k : Gr W wx) => atoi_not (cutA x) (fun v e => by rw [ha] at e; cases e) (Nat.le_trans HC.out.1 HX.out) wx (HE.out.gr (GW.out.trans k)))
      gi_wp2_with (first
        | (gi_at_call 36; (refine (callsIn_wide.2 (C17.out _)).mono ?_); rintro e w1 ⟨f1, rfl, g1⟩; have G1 := Lib.hid g1; obtain ⟨y2, z2⟩ := X2.out.gr g1; obtain ⟨y3, z3⟩ := X3.out.gr g1; obtain ⟨y4, z4⟩ := X4.out.gr g1; clear g1)
        | (gi_at_call 37; (refine (callsIn_wide.2 (CA.out _ G1.out)).mono ?_); rintro e w2 ⟨⟨n0, N0, rfl⟩, g2⟩; have G2 := Lib.hid (G1.out.trans g2); obtain ⟨y2, z2⟩ := X2.out.gr G2.out; obtain ⟨y3, z3⟩ := X3.out.gr G2.out; obtain ⟨y4, z4⟩ := X4.out.gr G2.out; clear g2 CA))
      exact Ix.leave G2.out HI.out HR.out
    · have HR := Lib.hid (show rdO x = none by unfold rdO; rw [ha])
      have CA := Lib.hid (fun wx (k : Gr W wx) => atoi_not (cutA x) (fun v e => by rw [ha] at e; cases e) (Nat.le_trans HC.out.1 HX.out) wx (HE.out.gr (GW.out.trans k)))
      gi_wp2_with (first
        | (gi_at_call 36; (refine (callsIn_wide.2 (C17.out _)).mono ?_); rintro e w1 ⟨f1, rfl, g1⟩; have G1 := Lib.hid g1; obtain ⟨y2, z2⟩ := X2.out.gr g1; obtain ⟨y3, z3⟩ := X3.out.gr g1; obtain ⟨y4, z4⟩ := X4.out.gr g1; clear g1)
        | (gi_at_call 37; (refine (callsIn_wide.2 (CA.out _ G1.out)).mono ?_); rintro e w2 ⟨⟨n0, N0, rfl⟩, g2⟩; have G2 := Lib.hid (G1.out.trans g2); obtain ⟨y2, z2⟩ := X2.out.gr G2.out; obtain ⟨y3, z3⟩ := X3.out.gr G2.out; obtain ⟨y4, z4⟩ := X4.out.gr G2.out; clear g2 CA))
      exact Ix.leave G2.out HI.out HR.out
  case done =>
    rintro D ys W hD rfl ⟨ms, a, c, hI⟩ hK
    have X2 := Lib.hid hI.x2
    have X3 := Lib.hid hI.x3
    have X4 := Lib.hid hI.x4
    have RW := Lib.hid hI.row
    have GW := Lib.hid hI.gr
    have HP := Lib.hid (HPo.out ms hI.rd)
    have HD := Lib.hid hK
    have HDW := Lib.hid (show w.heap.size + 6 ≤ D by omega)
    have HK := Lib.hid (show ms.length ≤ 9223372036854775807 by rw [rdsO_len hI.rd]; have := split_few s; have := HS.out; omega)
    obtain ⟨c4, f4⟩ := hI.x4
    obtain ⟨a', c', ev, l1, l2, rd⟩ := rd_ownM hI.row
    obtain ⟨rfl, rfl⟩ : a = a' ∧ c = c' := by cases ev; exact ⟨rfl, rfl⟩
    have C12 := Lib.hid (show Calls Tryz.prog 27 #[.slice a ms.length c] W (RetB (vMk ms) W) from ValidClock_any a ms.length c (px ms) (py ms) W HK.out rd)
    have HRD := Lib.hid rd
    have HLL := Lib.hid (And.intro l1 l2)
    clear ev rd hI l1 l2 I0 B2 B3 B4 B5 B6 B7 G0 hD hK HPo HPn
    cases hv : vMk ms with
    | false =>
      rw [hv] at C12
      have HQ := Lib.hid (show prO s.data.toList = ([], 3) by rw [HP.out, if_neg (by rw [hv]; simp)])
      clear hv HP
      gi_wp2_with (gi_at_call 27; (refine (callsIn_wide.2 C12.out).mono ?_); rintro e w5 ⟨rfl, g5⟩; have G5 := Lib.hid g5; obtain ⟨y2, z2⟩ := X2.out.gr g5; obtain ⟨y3, z3⟩ := X3.out.gr g5; obtain ⟨y4, z4⟩ := X4.out.gr g5; clear g5 C12)
      obtain ⟨d1, d2, d3, d4⟩ := fin_res (v := .slice none 0 0) (E := 3) HDW.out (GW.out.trans G5.out) (X2.out.gr G5.out) (X3.out.gr G5.out) (heap_gr HD.out G5.out)
      refine ⟨by simp, .inl ⟨_, _, rfl, run_takeDeferred d1, ?_⟩⟩
      rw [HQ.out]
      exact ⟨_, by simp [results, Tryz.f15, go_sem, d2, d3], RetMs.none d4 3⟩
    | true =>
      rw [hv] at C12
      have C13 := Lib.hid (fun wx (k : Gr W wx) => text_any a c ms wx (HT.out.gr (GW.out.trans k)) hv (HRD.out.gr k))
      cases hcmp : ((bA (txC ms)).toList == s.toList) with
      | true =>
        have HQ := Lib.hid (show prO s.data.toList = (ms, 0) by
          refine HP.out.trans (if_pos ⟨hv, ?_⟩)
          have : (bA (txC ms)).toList = s.toList := by simpa using hcmp
          rw [ByteArray.toList_eq, ByteArray.toList_eq] at this
          exact this)
        clear hv HP
        generalize bA (txC ms) = T at *
        gi_wp2_with (first
          | (gi_at_call 27; (refine (callsIn_wide.2 C12.out).mono ?_); rintro e w5 ⟨rfl, g5⟩; have G5 := Lib.hid g5; obtain ⟨y2, z2⟩ := X2.out.gr g5; obtain ⟨y3, z3⟩ := X3.out.gr g5; obtain ⟨y4, z4⟩ := X4.out.gr g5; clear g5 C12)
          | (gi_at_call 31; (refine (callsIn_wide.2 (C13.out _ G5.out)).mono ?_); rintro e w6 ⟨rfl, g6⟩; have G6 := Lib.hid (G5.out.trans g6); obtain ⟨y2, z2⟩ := X2.out.gr G6.out; obtain ⟨y3, z3⟩ := X3.out.gr G6.out; obtain ⟨y4, z4⟩ := X4.out.gr G6.out; clear g6 C13))
        obtain ⟨d1, d2, d3, d4⟩ := fin_res (v := .slice a ms.length c) (E := 0) HDW.out (GW.out.trans G6.out) (X2.out.gr G6.out) (X3.out.gr G6.out) (heap_gr HD.out G6.out)
        have RR := row_put (row_set (u := .int .i64 0) (b := w.heap.size + 1) (row_set (u := .slice a ms.length c) (b := w.heap.size) (rows_gr RW.out G6.out) (by omega)) (by omega)) d1
        refine ⟨by simp, .inl ⟨_, _, rfl, run_takeDeferred d1, ?_⟩⟩
        rw [HQ.out]
        obtain ⟨a2, c2', ev, l1, l2, rd⟩ := rd_ownM RR
        obtain ⟨rfl, rfl⟩ : a = a2 ∧ c = c2' := by cases ev; exact ⟨rfl, rfl⟩
        exact ⟨.tuple #[.slice a ms.length c, .int .i64 0], by simp [results, Tryz.f15, go_sem, d2, d3], a, c, rfl, l1, l2, rd, d4⟩
      | false =>
        have HQ := Lib.hid (show prO s.data.toList = ([], 3) by
          rw [HP.out, if_neg]
          rintro ⟨_, e⟩
          have : (bA (txC ms)).toList = s.toList := by rw [ByteArray.toList_eq, ByteArray.toList_eq]; exact e
          rw [this] at hcmp
          simp at hcmp)
        clear hv HP
        generalize bA (txC ms) = T at *
        gi_wp2_with (first
          | (gi_at_call 27; (refine (callsIn_wide.2 C12.out).mono ?_); rintro e w5 ⟨rfl, g5⟩; have G5 := Lib.hid g5; obtain ⟨y2, z2⟩ := X2.out.gr g5; obtain ⟨y3, z3⟩ := X3.out.gr g5; obtain ⟨y4, z4⟩ := X4.out.gr g5; clear g5 C12)
          | (gi_at_call 31; (refine (callsIn_wide.2 (C13.out _ G5.out)).mono ?_); rintro e w6 ⟨rfl, g6⟩; have G6 := Lib.hid (G5.out.trans g6); obtain ⟨y2, z2⟩ := X2.out.gr G6.out; obtain ⟨y3, z3⟩ := X3.out.gr G6.out; obtain ⟨y4, z4⟩ := X4.out.gr G6.out; clear g6 C13))
        obtain ⟨d1, d2, d3, d4⟩ := fin_res (v := .slice none 0 0) (E := 3) HDW.out (GW.out.trans G6.out) (X2.out.gr G6.out) (X3.out.gr G6.out) (heap_gr HD.out G6.out)
        refine ⟨by simp, .inl ⟨_, _, rfl, run_takeDeferred d1, ?_⟩⟩
        rw [HQ.out]
        exact ⟨_, by simp [results, Tryz.f15, go_sem, d2, d3], RetMs.none d4 3⟩
  case stop =>
    rintro D cc pre W hD ⟨t, ht⟩ ⟨rfl, hn, x2, x3, gw⟩ hK
    have HQ := Lib.hid (HPn.out (by rw [ht]; exact rdsO_none _ _ hn))
    have c2 := x2.fin hK
    have c3 := x3.fin hK
    have HG := Lib.hid (gr_put (D := D) gw (by omega))
    have HD := Lib.hid hK
    clear x2 x3 gw hK hn ht
    gi_wp2
    refine ⟨by simp, .inl ⟨_, _, rfl, run_takeDeferred HD.out, ?_⟩⟩
    rw [HQ.out]
    exact ⟨_, by simp [results, Tryz.f15, go_sem, c2, c3], RetMs.none HG.out 3⟩

theorem Parse_any (s : ByteArray) (w : World) (hs : s.size ≤ 9223372036854775807) (hT : Pow10 w) (hE : Errs w) :
    Calls Tryz.prog 15 #[.string s] w (RetMs (prO s.data.toList).1 (prO s.data.toList).2 w) := by
  by_cases hl : s.size ≤ 420
  · exact Parse_in s w hl hT hE
  · have ep : prO s.data.toList = ([], 3) := by unfold prO; rw [if_pos (by rw [size_key]; omega)]
    rw [ep]
    have i7 : (s.size : Int) > 420 := by omega
    clear ep hl hT hE
    go_enter Tryz.func15, Tryz.ntmps15
    go_wp2_with fail
    refine bodyPost_ret (v := .tuple #[.slice none 0 0, .int .i64 3]) (by simp [results, Tryz.results15, go_sem]) rfl ?_
    exact RetMs.none (((Gr.refl w).alloc _).alloc _) 3
end Go.Proofs.YtdlbgelidcfmiaaGreatDoor
