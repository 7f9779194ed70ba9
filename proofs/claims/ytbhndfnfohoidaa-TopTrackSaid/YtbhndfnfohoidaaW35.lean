/- Contracts of chapter 5: weights that prove the least cost. -/
import Derived.Test.YtbhndfnfohoidaaPF
import Derived.Test.YtbhndfnfohoidaaW33
import Derived.Test.YtbhndfnfohoidaaW34
import Derived.Test.YtbhndfnfohoidaaW22
namespace Go.Proofs.Ytbhndfnfohoidaa
open Go.RowKit Go.Firn Go.Shelf
attribute [local go_sem] Oper.semAt_some
attribute [local simp] wide_fn

/-- make of n zeros. -/
theorem mk_row {P : Program} {t e : TypeId} {z : Value} {by8 : Nat} (ht : P.underlying t = some (.slice e)) (hi : (P.info? e).map (fun i => (i.zero, i.size, i.bytes)) = some (some z, 1, by8)) (hz : z.cells = #[z]) (h8 : by8 ≤ 8) (n : Nat) (hn : n ≤ 100000) :
    ∃ cs : Array Value, (∀ i, i < n → cs[i]? = some z) ∧ cs.size = n ∧ ∀ w : World, (Instr.makeSlice t (.int .i64 n) (.int .i64 n)).run P w = .ok (.slice (some ⟨w.heap.size, 0, none⟩) n n) (w.alloc (.cells cs e)) := by
  obtain ⟨i, hi, i1, i2, i3⟩ : ∃ i, P.info? e = some i ∧ i.zero = some z ∧ i.size = 1 ∧ i.bytes = by8 := by
    cases h : P.info? e with
    | none => rw [h] at hi; cases hi
    | some i => rw [h] at hi; simp at hi; exact ⟨i, rfl, hi.1, hi.2.1, hi.2.2⟩
  refine ⟨madeCells z.cells n, ?_, ?_, fun w => ?_⟩
  · intro j hj
    rw [hz]
    simp [madeCells, hj, Nat.mod_one]
  · rw [size_madeCells]
  · have h8n : by8 * n ≤ 8 * 100000 := Nat.mul_le_mul h8 hn
    have := run_make (P := P) w t e i z ht hi i1 .i64 .i64 n n (by omega) (by omega) (by rw [i3, ← Int.natCast_mul]; omega) (by omega)
    rw [this, i2]
    simp
theorem RowW.new {w w' : World} {cs : Array Value} {e n g : Nat} (hc : ∀ i, i < n → cs[i]? = some (.int .i64 0)) (hg : w.heap.size = g) (h : Gr (w.alloc (.cells cs e)) w') : RowW w' g 0 n (fun _ => 0) := fun j hj => by
  have := h.fresh' (b := g) (j := 0 + j) (v := .int .i64 0) hg (by rw [Nat.zero_add]; exact hc j hj)
  exact ⟨this.1, this.2⟩

/-- The answer: weights that prove just the cost of the line. -/
def RetW (n : Nat) (X r0 : Nat → Int) (w : World) (e : Ending) (w' : World) : Prop := ∃ bw cw m W, e = .returned (.tuple #[.slice (some ⟨bw, 0, none⟩) n cw, .int .i64 m]) ∧ n ≤ cw ∧ cw ≤ maxLen ∧ Good n X r0 W m ∧ RdI w' (some ⟨bw, 0, none⟩) n W ∧ Gr w w'
/-- No pair of those that came so far serves. -/
def Nix (n : Nat) (X r0 : Nat → Int) (p : Nat → Bool) (pre : List (Nat × Nat)) : Prop := ∀ q ∈ pre, p q.1 = true → p q.2 = true → ∀ s, s < 2 ^ (onL p n).length → solB n X (fin (ab (X q.1 - X q.2)) r0 (onL p n) s) (ab (X q.1 - X q.2)) q.1 q.2 = false
/-- The caller's invariant; what lies where a round returned. -/
def Iwt (n : Nat) (X r0 : Nat → Int) (p : Nat → Bool) (W0 : World) (pre : List (Nat × Nat)) (W : World) : Prop := Gr W0 W ∧ Nix n X r0 p pre ∧ ∀ q ∈ pre, IsPr n X q
def Izt (n : Nat) (X r0 : Nat → Int) (b2 b3 : Nat) (w : World) (_ : List (Nat × Nat)) (W : World) : Prop := Gr w W ∧ ∃ bw cw m Wt, n ≤ cw ∧ cw ≤ maxLen ∧ Good n X r0 Wt m ∧ W.cell? ⟨b2, 0, none⟩ = some (.slice (some ⟨bw, 0, none⟩) n cw) ∧ W.cell? ⟨b3, 0, none⟩ = some (.int .i64 m) ∧ ∀ j, j < n → W.cell? ⟨bw, 0 + j, none⟩ = some (.int .i64 (Wt j))
theorem Iwt.own (n : Nat) (X r0 : Nat → Int) (p : Nat → Bool) (W0 : World) : OwnFrom W0.heap.size (Iwt n X r0 p W0) := fun _ _ _ _ hs hg hr => ⟨hs.1.grown hg (fun k er => (hr k er).1), hs.2⟩
theorem Izt.own (n : Nat) (X r0 : Nat → Int) (b2 b3 B : Nat) (w : World) (hB : w.heap.size ≤ B) : OwnFrom B (Izt n X r0 b2 b3 w) := fun _ _ _ _ hs hg hr => by
  obtain ⟨h0, bw, cw, m, Wt, h1, h2, h3, h4, h5, h6⟩ := hs
  have k := fun r e => (hr r e).2
  exact ⟨h0.grown hg (fun k er => Nat.le_trans hB (hr k er).1), bw, cw, m, Wt, h1, h2, h3, cell_kept h4 hg k, cell_kept h5 hg k, fun j hj => cell_kept (h6 j hj) hg k⟩

theorem Iwt.skip {n i k : Nat} {X r0 : Nat → Int} {p : Nat → Bool} {W0 W W' : World} {pre : List (Nat × Nat)} (h : Iwt n X r0 p W0 pre W) (hx : IsPr n X (i, k)) (hn : p i = true → p k = true → ∀ s, s < 2 ^ (onL p n).length → solB n X (fin (ab (X i - X k)) r0 (onL p n) s) (ab (X i - X k)) i k = false) (g : Gr W W') :
    KeepsOthers W W' ∧ Kc (fun _ => True) W W' ∧ Iwt n X r0 p W0 (pre ++ [(i, k)]) W' := by
  refine ⟨Gr.others g, fun p v _ e => g.cell e, h.1.trans g, fun q hq => ?_, fun q hq => ?_⟩
  · rcases List.mem_append.1 hq with hq | hq
    · exact h.2.1 q hq
    · obtain rfl := List.mem_singleton.1 hq
      exact hn
  · rcases List.mem_append.1 hq with hq | hq
    · exact h.2.2 q hq
    · obtain rfl := List.mem_singleton.1 hq
      exact hx

theorem dual_a (W : World) {cs : Array Value} {n e1 e2 : Nat} (v0 v1 v2 : Value) (hc : ∀ i, i < n → cs[i]? = some (.int .i64 0)) : Gr W ((W.alloc (.cells cs e1)).alloc (.cells #[v0, v1, v2] e2)).drew ∧ ((W.alloc (.cells cs e1)).alloc (.cells #[v0, v1, v2] e2)).drew.cell? ⟨W.heap.size + 1, 0, none⟩ = some v0 ∧ ((W.alloc (.cells cs e1)).alloc (.cells #[v0, v1, v2] e2)).drew.cell? ⟨W.heap.size + 1, 1, none⟩ = some v1 ∧ ((W.alloc (.cells cs e1)).alloc (.cells #[v0, v1, v2] e2)).drew.cell? ⟨W.heap.size + 1, 2, none⟩ = some v2 ∧ RowW ((W.alloc (.cells cs e1)).alloc (.cells #[v0, v1, v2] e2)).drew W.heap.size 0 n (fun _ => 0) := by
  have y := (Gr.refl ((W.alloc (.cells cs e1)).alloc (.cells #[v0, v1, v2] e2))).drew
  exact ⟨(((Gr.refl W).alloc _).alloc _).drew, (y.fresh' (by simp) rfl).1, (y.fresh' (by simp) rfl).1, (y.fresh' (by simp) rfl).1, RowW.new hc rfl (((Gr.refl _).alloc _).drew)⟩
theorem dual_b (W : World) {cs : Array Value} {n e1 e2 : Nat} (v0 v1 v2 : Value) (hc : ∀ i, i < n → cs[i]? = some (.int .i64 0)) : Gr W ((W.alloc (.cells #[v0, v1, v2] e2)).alloc (.cells cs e1)).drew ∧ ((W.alloc (.cells #[v0, v1, v2] e2)).alloc (.cells cs e1)).drew.cell? ⟨W.heap.size, 0, none⟩ = some v0 ∧ ((W.alloc (.cells #[v0, v1, v2] e2)).alloc (.cells cs e1)).drew.cell? ⟨W.heap.size, 1, none⟩ = some v1 ∧ ((W.alloc (.cells #[v0, v1, v2] e2)).alloc (.cells cs e1)).drew.cell? ⟨W.heap.size, 2, none⟩ = some v2 ∧ RowW ((W.alloc (.cells #[v0, v1, v2] e2)).alloc (.cells cs e1)).drew (W.heap.size + 1) 0 n (fun _ => 0) := by
  have y := ((Gr.refl (W.alloc (.cells #[v0, v1, v2] e2))).alloc (.cells cs e1)).drew
  exact ⟨(((Gr.refl W).alloc _).alloc _).drew, (y.fresh' rfl rfl).1, (y.fresh' rfl rfl).1, (y.fresh' rfl rfl).1, RowW.new hc (by simp) ((Gr.refl _).drew)⟩

/-- The dual in its block, and where its row lies. -/
def DualAt (W : World) (bd : Nat) (v0 v1 v2 : Value) (wr : World) : Prop := Gr W wr ∧ wr.cell? ⟨bd, 0, none⟩ = some v0 ∧ wr.cell? ⟨bd, 1, none⟩ = some v1 ∧ wr.cell? ⟨bd, 2, none⟩ = some v2
theorem DualAt.gr {W : World} {bd : Nat} {v0 v1 v2 : Value} {wr w' : World} (h : DualAt W bd v0 v1 v2 wr) (g : Gr wr w') : DualAt W bd v0 v1 v2 w' := ⟨h.1.trans g, g.cell h.2.1, g.cell h.2.2.1, g.cell h.2.2.2⟩
theorem DualAt.wr {W : World} {bd bw : Nat} {v0 v1 v2 : Value} {wr w' : World} (h : DualAt W bd v0 v1 v2 wr) (g : Wr bw wr w') (hb : W.heap.size ≤ bw) (hne : bd ≠ bw) : DualAt W bd v0 v1 v2 w' := ⟨g.gr h.1 hb, g.cell h.2.1 hne, g.cell h.2.2.1 hne, g.cell h.2.2.2 hne⟩
/-- The bit of a number. -/
theorem bit64 {s t : Nat} (hs : s < 4096) : bits .and .i64 ((s : Int) / (2 : Int) ^ t) 1 = ((s / 2 ^ t % 2 : Nat) : Int) := by
  have e : (s : Int) / (2 : Int) ^ t = ((s / 2 ^ t : Nat) : Int) := by push_cast; rfl
  rw [e]
  have h : s / 2 ^ t < 4096 := Nat.lt_of_le_of_lt (Nat.div_le_self _ _) hs
  generalize s / 2 ^ t = x at *
  show IntKind.i64.wrap ((BitVec.ofInt 64 (x : Int) &&& BitVec.ofInt 64 ((1 : Nat) : Int)).toNat : Int) = _
  rw [BitVec.toNat_and, BitVec.ofInt_natCast, BitVec.ofInt_natCast, BitVec.toNat_ofNat, BitVec.toNat_ofNat, Nat.mod_eq_of_lt (by omega), Nat.mod_eq_of_lt (by omega), Nat.and_one_is_mod]
  exact IntWalk.i64_in _ (by omega)
theorem izt_a {W : World} {p : Nat} {u u' v' : Value} (h : W.cell? ⟨p, 0, none⟩ = some u) : (((W.setCell ⟨p, 0, none⟩ u').setCell ⟨p + 1, 0, none⟩ v').drew).cell? ⟨p, 0, none⟩ = some u' := by
  exact ((Gr.refl _).drew).cell (by rw [World.cell?_setCell_other _ _ _ _ (by simp)]; exact World.cell?_setCell_same' _ _ _ (by rw [h]; rfl))
theorem izt_b {W : World} {p q : Nat} {v u' v' : Value} (h2 : W.cell? ⟨p, 0, none⟩ = some v) (hne : q ≠ p) : (((W.setCell ⟨q, 0, none⟩ u').setCell ⟨p, 0, none⟩ v').drew).cell? ⟨p, 0, none⟩ = some v' := by
  exact ((Gr.refl _).drew).cell (World.cell?_setCell_same' _ _ _ (by rw [cell_far (k := 0) h2 hne]; rfl))
theorem cmp_bd (x y : Int) : -1 ≤ cmpI x y ∧ cmpI x y ≤ 1 := by unfold cmpI; split <;> (try split) <;> omega
/-- The first q weights of the points beside the line. -/
def filK (m : Int) (r0 f : Nat → Int) (q j : Nat) : Int := if j < q then fil m r0 j else f j
theorem filK_succ (m : Int) (r0 f : Nat → Int) (q : Nat) : filK m r0 f (q + 1) = upd (filK m r0 f q) q (fil m r0 q) := by
  funext j
  show (if j < q + 1 then fil m r0 j else f j) = if j = q then fil m r0 q else (if j < q then fil m r0 j else f j)
  by_cases h : j = q
  · rw [if_pos h, if_pos (by omega), h]
  · rw [if_neg h]
    by_cases h2 : j < q
    · rw [if_pos h2, if_pos (by omega)]
    · rw [if_neg h2, if_neg (by omega)]

set_option maxHeartbeats 8000000 in
set_option maxRecDepth 100000 in
theorem weights_any (b o n c : Nat) (X Y : Nat → Int) (V : VP n X Y) (q0 : Nat × Nat) (hq0 : bst n X Y (prs X n) = some q0) (w : World) (hr : RdM w (some ⟨b, o, none⟩) n X Y) :
    Calls Try.prog 80 #[.slice (some ⟨b, o, none⟩) n c] w (RetW n X (fun j => rs (X j) (Y j) (pA X Y q0) (pB X Y q0) (pD X Y q0)) w) := by
  have HV := Lib.hid V
  have n2 := V.two
  have n12 := V.few
  have HR := Lib.hid hr
  have hpr := prs_pr (X := X) (Nat.le_refl n) q0 (bst_mem hq0)
  have HL := Lib.hid (pr_in V.ok hpr)
  have CB := Lib.hid (fun w' g => best_any b o n c X Y V w' (hr.gr g))
  have HF := Lib.hid (found_any V hq0 (r0 := fun j => rs (X j) (Y j) (pA X Y q0) (pB X Y q0) (pD X Y q0)) (fun _ => rfl) (p := onP X Y (pA X Y q0) (pB X Y q0) (pD X Y q0)) (fun _ => rfl))
  rw [hq0, show oA X Y (some q0) = pA X Y q0 from rfl, show oB X Y (some q0) = pB X Y q0 from rfl, show oD X Y (some q0) = pD X Y q0 from rfl] at CB
  have CO := Lib.hid (fun w' g => on_any (some ⟨b, o, none⟩) n c X Y (pA X Y q0) (pB X Y q0) (pD X Y q0) w' n12 (hr.gr g) V.ok HL.out.1)
  clear hpr hq0 V hr
  generalize pA X Y q0 = A at *
  generalize pB X Y q0 = B at *
  generalize pD X Y q0 = D at *
  obtain ⟨r0, hr0⟩ : ∃ r0 : Nat → Int, (fun j => rs (X j) (Y j) A B D) = r0 := ⟨_, rfl⟩
  obtain ⟨p, hp0⟩ : ∃ p : Nat → Bool, onP X Y A B D = p := ⟨_, rfl⟩
  have EP := Lib.hid (show ∀ j, p j = decide (r0 j = 0) by intro j; rw [← hp0, ← hr0]; rfl)
  have ER := Lib.hid (show ∀ j, rs (X j) (Y j) A B D = r0 j from fun j => congrFun hr0 j)
  rw [hr0, hp0] at HF
  rw [hp0] at CO
  rw [hr0]
  clear hr0 hp0
  obtain ⟨W0, hW0⟩ : ∃ W0, ((w.alloc (.cells #[.slice (some ⟨b, o, none⟩) n c] 22)).alloc (.cells #[.slice none 0 0] 23)).alloc (.cells #[.int .i64 0] 3) = W0 := ⟨_, rfl⟩
  have S0 : W0.heap.size = w.heap.size + 3 := by rw [← hW0]; simp
  have G0 := Lib.hid (show Gr w W0 by rw [← hW0]; exact (((Gr.refl w).alloc _).alloc _).alloc _)
  have z1 : W0.cell? ⟨w.heap.size, 0, none⟩ = some (.slice (some ⟨b, o, none⟩) n c) := by rw [← hW0]; exact (((Gr.refl _).alloc _).alloc _).fresh' rfl rfl |>.1
  have z2 : W0.cell? ⟨w.heap.size + 1, 0, none⟩ = some (.slice none 0 0) ∧ W0.frozen? ⟨w.heap.size + 1, 0, none⟩ = false := by rw [← hW0]; exact ((Gr.refl _).alloc _).fresh' (by simp) rfl
  have z3 : W0.cell? ⟨w.heap.size + 1 + 1, 0, none⟩ = some (.int .i64 0) ∧ W0.frozen? ⟨w.heap.size + 1 + 1, 0, none⟩ = false := by rw [← hW0]; exact (Gr.refl _).fresh' (by simp) rfl
  refine (callsIn_wide (n := 3)).1 ?_
  refine callsIn_of_wp_marks Try.func80 rfl trivial ?_ rfl
  simp only [Try.ntmps80, List.size_toArray, List.length_cons, List.length_nil, Nat.reduceAdd, Nat.reduceSub, Array.replicate_succ, Array.replicate_zero, List.push_toArray, List.append_toArray, List.nil_append, List.cons_append]
  gi_wp2_with (first
    | (gi_at_call 60; (with_reducible refine (callsIn_wide.2 (CB.out _ G0.out)).mono ?_); rintro e w1 ⟨rfl, g1⟩; have z1' := g1.cell z1; have l1 := World.block_lt_of_cell? w1 _ z1'; simp only at l1)
    | (gi_at_call 76; (with_reducible refine (callsIn_wide.2 (CO.out _ (G0.out.trans (g1.alloc _)))).mono ?_); rintro e w2 ⟨al, cl, rfl, hcl, hcm, hl, g2⟩; have z1'' := g2.cell (((Gr.refl w1).alloc _).cell z1'); have l2 := World.block_lt_of_cell? w2 _ z1''; simp only at l2)
    | (gi_at_call 83; (with_reducible refine (callsIn_wide.2 (pairs_any _ _ _ _)).mono ?_); rintro e w' ⟨rfl, rfl⟩))
  generalize hWb : ((w2.alloc (.cells #[.slice al (onL p n).length cl] 23)).alloc (.cells #[.slice (some ⟨b, o, none⟩) n c] 22)) = Wb
  have gb : Gr w2 Wb := by rw [← hWb]; exact ((Gr.refl _).alloc _).alloc _
  have g02 : Gr W0 w2 := (g1.alloc _).trans g2
  have BX := Lib.hid (show Box3 Wb w1.heap.size A B D from ((Box3.new rfl).gr g2).gr gb)
  have d5 := Lib.hid (show Wb.cell? ⟨w2.heap.size, 0, none⟩ = some (.slice al (onL p n).length cl) by rw [← hWb]; exact ((Gr.refl _).alloc _).fresh' rfl rfl |>.1)
  have d6 := Lib.hid (show Wb.cell? ⟨w2.heap.size + 1, 0, none⟩ = some (.slice (some ⟨b, o, none⟩) n c) by rw [← hWb]; exact (Gr.refl _).fresh' (by simp) rfl |>.1)
  have d1 := Lib.hid (gb.cell z1'')
  have d2 := Lib.hid (show Wb.cell? ⟨w.heap.size + 1, 0, none⟩ = some (.slice none 0 0) ∧ Wb.frozen? ⟨w.heap.size + 1, 0, none⟩ = false from ⟨(g02.trans gb).cell z2.1, (Below.frozen (g02.trans gb) (World.block_lt_of_cell? W0 _ z2.1)).trans z2.2⟩)
  have d3 := Lib.hid (show Wb.cell? ⟨w.heap.size + 1 + 1, 0, none⟩ = some (.int .i64 0) ∧ Wb.frozen? ⟨w.heap.size + 1 + 1, 0, none⟩ = false from ⟨(g02.trans gb).cell z3.1, (Below.frozen (g02.trans gb) (World.block_lt_of_cell? W0 _ z3.1)).trans z3.2⟩)
  have GB := Lib.hid (G0.out.trans (g02.trans gb))
  have HLI := Lib.hid (hl.gr gb)
  have lb4 : w.heap.size + 1 + 1 < w1.heap.size := by have := World.block_lt_of_cell? w1 _ (g1.cell z3.1); simpa using this
  clear hWb g1 g2 gb g02 hl l1 l2 z1 z1' z1'' z2 z3 CB CO G0 hW0 S0
  generalize w1.heap.size = b4 at *
  generalize w2.heap.size = b5 at *
  have LL : (onL p n).length ≤ 12 := Nat.le_trans (onL_len p n) n12
  refine rangeFunc_stop rfl (by omega) (gf := 98) (lb := #[.pointer (some ⟨b5 + 1, 0, none⟩)]) rfl trivial (enters_of Try.func98 (by kernel_rfl) rfl)
    (pairs1_stop (K := fun _ => True) _ (by omega) (b5 + 1) b o n c X Y Wb n12 d6.out (HR.out.gr GB.out) trivial trivial)
    Kc.trans (fun W l o o' _ h hc _ => Kc.putObj W l o o' h hc) (fun x W l o o' hx h hc => hx) (Below.refl _ _) (fun _ => rfl)
    (Iwt n X r0 p Wb) (Izt n X r0 (w.heap.size + 1) (w.heap.size + 1 + 1) w) (Iwt.own n X r0 p Wb) (Izt.own _ _ _ _ _ _ _ (Gr.size GB.out))
    ⟨Gr.refl _, fun q hq => (by cases hq), fun q hq => (by cases hq)⟩
    (fun x => { tmps := #[(.slice (some ⟨b, o, none⟩) n c), .pointer (some ⟨w.heap.size, 0, none⟩), .pointer (some ⟨w.heap.size + 1, 0, none⟩), .pointer (some ⟨w.heap.size + 1 + 1, 0, none⟩), .pointer (some ⟨b4, 0, none⟩), .pointer (some ⟨b5, 0, none⟩), .int .i64 x.1, .int .i64 x.2, undef, undef, undef, undef, undef, undef, (.slice (some ⟨b, o, none⟩) n c), .agg #[.int .i64 A, .int .i64 B, .int .i64 D], (.slice (some ⟨b, o, none⟩) n c), .agg #[.int .i64 A, .int .i64 B, .int .i64 D], .slice al (onL p n).length cl, (.slice (some ⟨b, o, none⟩) n c), .func (.func 98) #[] #[.pointer (some ⟨b5 + 1, 0, none⟩)], .int .i64 x.1, .int .i64 x.2, undef, undef, undef, undef, undef, undef, undef, undef, undef, undef, undef, undef, undef, undef, undef, undef, undef, undef, undef, undef, undef, undef, undef, undef, undef, undef, undef, undef, undef, undef, undef, undef, undef, undef, undef, undef, undef, undef, undef, undef, undef, undef, undef, undef, undef, undef, undef, undef, undef, undef, undef, undef, undef, undef, undef, undef, undef, undef, undef, undef, undef, undef, undef, undef, undef, undef, undef, undef, undef, undef, undef, undef, undef, undef, undef, undef, undef, undef, undef, undef, undef, undef, undef, undef, undef], defers := [] }) ?assign ?body ?done ?stop
  case assign =>
    intro l x W K hK
    unfold encP
    gi_wp2
    exact hK
  case body =>
    rintro l pre x W hI hw
    obtain ⟨i, k⟩ := x
    have GW := Lib.hid hI.1
    have II := Lib.hid hI
    have HW := Lib.hid hw
    have i1 : i < n := Nat.lt_trans hw.1 hw.2.1
    have k1 : k < n := hw.2.1
    have i2 : (i : Int) < n := by omega
    have k2 : (k : Int) < n := by omega
    have CI := Lib.hid (show Calls Try.prog 87 #[.slice al (onL p n).length cl, .int .i64 i] W fun e w' => e = .returned (.bool (p i)) ∧ W = w' by rw [← on_any_iff (p := p) i1]; exact Contains_any al (onL p n).length cl (nf (onL p n)) i W (by omega) (HLI.out.gr GW.out))
    have CK := Lib.hid (show Calls Try.prog 87 #[.slice al (onL p n).length cl, .int .i64 k] W fun e w' => e = .returned (.bool (p k)) ∧ W = w' by rw [← on_any_iff (p := p) k1]; exact Contains_any al (onL p n).length cl (nf (onL p n)) k W (by omega) (HLI.out.gr GW.out))
    have e1 := GW.out.cell d1.out
    have e5 := GW.out.cell d5.out
    clear hI hw
    cases hpi : p i with
    | false =>
      rw [hpi] at CI
      gi_wp2_with (gi_at_call 87; (with_reducible refine (CallsIn.inRound l (callsIn_wide.2 CI.out)).mono ?_); rintro e w3 ⟨rfl, rfl⟩)
      exact II.out.skip HW.out (fun h => by rw [hpi] at h; cases h) (Gr.refl _)
    | true =>
      rw [hpi] at CI
      cases hpk : p k with
      | false =>
        rw [hpk] at CK
        gi_wp2_with (first
          | (gi_at_call 87; (with_reducible refine (CallsIn.inRound l (callsIn_wide.2 CI.out)).mono ?_); rintro e w3 ⟨rfl, rfl⟩)
          | (gi_at_call 87; (with_reducible refine (CallsIn.inRound l (callsIn_wide.2 CK.out)).mono ?_); rintro e w3 ⟨rfl, rfl⟩))
        exact II.out.skip HW.out (fun _ h => by rw [hpk] at h; cases h) (Gr.refl _)
      | true =>
        rw [hpk] at CK
        gi_wp2_with (first
          | (gi_at_call 87; (with_reducible refine (CallsIn.inRound l (callsIn_wide.2 CI.out)).mono ?_); rintro e w3 ⟨rfl, rfl⟩)
          | (gi_at_call 87; (with_reducible refine (CallsIn.inRound l (callsIn_wide.2 CK.out)).mono ?_); rintro e w3 ⟨rfl, rfl⟩))
        clear CI CK
        obtain ⟨b', o', e, hc⟩ := (HR.out.gr (GB.out.trans GW.out)).at i1
        cases e
        obtain ⟨ci, _⟩ := hc i i1
        obtain ⟨ck, _⟩ := hc k k1
        have xi := (HV.out.ok i i1).1
        have xk := (HV.out.ok k k1).1
        have q1 : IntKind.i64.wrap (X i - X k) = X i - X k := IntWalk.i64_in _ (by omega)
        have CA := Lib.hid (fun w' => abs_any (X i - X k) w' (by unfold Sz; omega))
        obtain ⟨cs, hcs, _, MK⟩ := mk_row (P := Try.prog) (t := 23) (e := 3) (z := .int .i64 0) (by kernel_rfl) (by kernel_rfl) rfl (Nat.le_refl 8) n (by omega)
        have HCS := Lib.hid hcs
        clear hc hcs xi xk
        have lw : w.heap.size < W.heap.size := World.block_lt_of_cell? W _ e1
        gi_cut [8] from 23 (fun s8 wx => ∃ bd bw, s8 = .pointer (some ⟨bd, 0, none⟩) ∧ W.heap.size ≤ bd ∧ W.heap.size ≤ bw ∧ bd ≠ bw ∧ Gr W wx ∧ wx.cell? ⟨bd, 0, none⟩ = some (.slice (some ⟨b, o, none⟩) n c) ∧ wx.cell? ⟨bd, 1, none⟩ = some (.slice (some ⟨bw, 0, none⟩) n n) ∧ wx.cell? ⟨bd, 2, none⟩ = some (.int .i64 (ab (X i - X k))) ∧ RowW wx bw 0 n (fun _ => 0))
        case first =>
          refine wpIn_region_held (fun w' => Gr W w') 19 (by kernel_rfl) rfl rfl ?_
          have hS : Gr W W.drew := (Gr.refl W).drew
          iterate 14 (first
            | (refine wpAnyHIn_take 0 (v := ?_) rfl (by kernel_rfl) (by kernel_rfl) (by kernel_rfl) (by decide +kernel) (fun _ _ _ h => h) (fun _ _ _ => trivial) (by rfl) (fun w' hSw => ?_) hS ?_; rotate_left 1; (focus (have y1 := hSw.cell e1; have y2 := hSw.cell ci; have y3 := hSw.cell ck; go_simp; try with_reducible rfl)); simp only [Act.put, List.setIfInBounds_toArray, List.set_cons_zero, List.set_cons_succ])
            | (refine wpAnyHIn_take 1 (v := ?_) rfl (by kernel_rfl) (by kernel_rfl) (by kernel_rfl) (by decide +kernel) (fun _ _ _ h => h) (fun _ _ _ => trivial) (by rfl) (fun w' hSw => ?_) hS ?_; rotate_left 1; (focus (have y1 := hSw.cell e1; have y2 := hSw.cell ci; have y3 := hSw.cell ck; go_simp; try with_reducible rfl)); simp only [Act.put, List.setIfInBounds_toArray, List.set_cons_zero, List.set_cons_succ])
            | (refine wpAnyHIn_take 2 (v := ?_) rfl (by kernel_rfl) (by kernel_rfl) (by kernel_rfl) (by decide +kernel) (fun _ _ _ h => h) (fun _ _ _ => trivial) (by rfl) (fun w' hSw => ?_) hS ?_; rotate_left 1; (focus (have y1 := hSw.cell e1; have y2 := hSw.cell ci; have y3 := hSw.cell ck; go_simp; try with_reducible rfl)); simp only [Act.put, List.setIfInBounds_toArray, List.set_cons_zero, List.set_cons_succ])
            | (refine wpAnyHIn_take 4 (v := ?_) rfl (by kernel_rfl) (by kernel_rfl) (by kernel_rfl) (by decide +kernel) (fun _ _ _ h => h) (fun _ _ _ => trivial) (by rfl) (fun w' hSw => ?_) hS ?_; rotate_left 1; (focus (have y1 := hSw.cell e1; have y2 := hSw.cell ci; have y3 := hSw.cell ck; go_simp; try with_reducible rfl)); simp only [Act.put, List.setIfInBounds_toArray, List.set_cons_zero, List.set_cons_succ])
            | (refine wpAnyHIn_take 5 (v := ?_) rfl (by kernel_rfl) (by kernel_rfl) (by kernel_rfl) (by decide +kernel) (fun _ _ _ h => h) (fun _ _ _ => trivial) (by rfl) (fun w' hSw => ?_) hS ?_; rotate_left 1; (focus (have y1 := hSw.cell e1; have y2 := hSw.cell ci; have y3 := hSw.cell ck; go_simp; try with_reducible rfl)); simp only [Act.put, List.setIfInBounds_toArray, List.set_cons_zero, List.set_cons_succ])
            | (refine wpAnyHIn_take 6 (v := ?_) rfl (by kernel_rfl) (by kernel_rfl) (by kernel_rfl) (by decide +kernel) (fun _ _ _ h => h) (fun _ _ _ => trivial) (by rfl) (fun w' hSw => ?_) hS ?_; rotate_left 1; (focus (have y1 := hSw.cell e1; have y2 := hSw.cell ci; have y3 := hSw.cell ck; go_simp; try with_reducible rfl)); simp only [Act.put, List.setIfInBounds_toArray, List.set_cons_zero, List.set_cons_succ])
            | (refine wpAnyHIn_take 7 (v := ?_) rfl (by kernel_rfl) (by kernel_rfl) (by kernel_rfl) (by decide +kernel) (fun _ _ _ h => h) (fun _ _ _ => trivial) (by rfl) (fun w' hSw => ?_) hS ?_; rotate_left 1; (focus (have y1 := hSw.cell e1; have y2 := hSw.cell ci; have y3 := hSw.cell ck; go_simp; try with_reducible rfl)); simp only [Act.put, List.setIfInBounds_toArray, List.set_cons_zero, List.set_cons_succ])
            | (refine wpAnyHIn_take 8 (v := ?_) rfl (by kernel_rfl) (by kernel_rfl) (by kernel_rfl) (by decide +kernel) (fun _ _ _ h => h) (fun _ _ _ => trivial) (by rfl) (fun w' hSw => ?_) hS ?_; rotate_left 1; (focus (have y1 := hSw.cell e1; have y2 := hSw.cell ci; have y3 := hSw.cell ck; go_simp; try with_reducible rfl)); simp only [Act.put, List.setIfInBounds_toArray, List.set_cons_zero, List.set_cons_succ])
            | (refine wpAnyHIn_take 9 (v := ?_) rfl (by kernel_rfl) (by kernel_rfl) (by kernel_rfl) (by decide +kernel) (fun _ _ _ h => h) (fun _ _ _ => trivial) (by rfl) (fun w' hSw => ?_) hS ?_; rotate_left 1; (focus (have y1 := hSw.cell e1; have y2 := hSw.cell ci; have y3 := hSw.cell ck; go_simp; try with_reducible rfl)); simp only [Act.put, List.setIfInBounds_toArray, List.set_cons_zero, List.set_cons_succ])
            | (refine wpAnyHIn_take 10 (v := ?_) rfl (by kernel_rfl) (by kernel_rfl) (by kernel_rfl) (by decide +kernel) (fun _ _ _ h => h) (fun _ _ _ => trivial) (by rfl) (fun w' hSw => ?_) hS ?_; rotate_left 1; (focus (have y1 := hSw.cell e1; have y2 := hSw.cell ci; have y3 := hSw.cell ck; go_simp; try with_reducible rfl)); simp only [Act.put, List.setIfInBounds_toArray, List.set_cons_zero, List.set_cons_succ])
            | (refine wpAnyHIn_take 11 (v := ?_) rfl (by kernel_rfl) (by kernel_rfl) (by kernel_rfl) (by decide +kernel) (fun _ _ _ h => h) (fun _ _ _ => trivial) (by rfl) (fun w' hSw => ?_) hS ?_; rotate_left 1; (focus (have y1 := hSw.cell e1; have y2 := hSw.cell ci; have y3 := hSw.cell ck; go_simp; try with_reducible rfl)); simp only [Act.put, List.setIfInBounds_toArray, List.set_cons_zero, List.set_cons_succ])
            | (refine wpAnyHIn_take 12 (v := ?_) rfl (by kernel_rfl) (by kernel_rfl) (by kernel_rfl) (by decide +kernel) (fun _ _ _ h => h) (fun _ _ _ => trivial) (by rfl) (fun w' hSw => ?_) hS ?_; rotate_left 1; (focus (have y1 := hSw.cell e1; have y2 := hSw.cell ci; have y3 := hSw.cell ck; go_simp; try with_reducible rfl)); simp only [Act.put, List.setIfInBounds_toArray, List.set_cons_zero, List.set_cons_succ])
            | (refine wpAnyHIn_take 13 (v := ?_) rfl (by kernel_rfl) (by kernel_rfl) (by kernel_rfl) (by decide +kernel) (fun _ _ _ h => h) (fun _ _ _ => trivial) (by rfl) (fun w' hSw => ?_) hS ?_; rotate_left 1; (focus (have y1 := hSw.cell e1; have y2 := hSw.cell ci; have y3 := hSw.cell ck; go_simp; try with_reducible rfl)); simp only [Act.put, List.setIfInBounds_toArray, List.set_cons_zero, List.set_cons_succ])
            | (refine wpAnyHIn_take 14 (v := ?_) rfl (by kernel_rfl) (by kernel_rfl) (by kernel_rfl) (by decide +kernel) (fun _ _ _ h => h) (fun _ _ _ => trivial) (by rfl) (fun w' hSw => ?_) hS ?_; rotate_left 1; (focus (have y1 := hSw.cell e1; have y2 := hSw.cell ci; have y3 := hSw.cell ck; go_simp; try with_reducible rfl)); simp only [Act.put, List.setIfInBounds_toArray, List.set_cons_zero, List.set_cons_succ]))
          refine wpAnyHIn_ready [3, 15, 17] (by kernel_rfl) (by simp) ?_
          refine AllHIn.cons rfl (by rfl) (fun K hK => ?_) (AllHIn.cons rfl (by rfl) (fun K hK => ?_) (AllHIn.cons rfl (by rfl) (fun K hK => ?_) AllHIn.nil))
          · go_simp
            have hS := hS.alloc (.cells cs 3)
            refine hK.out _ _ hS ?_
            clear hK K
            refine wpAnyHIn_ready [15, 17] (by kernel_rfl) (by simp) ?_
            refine AllHIn.cons rfl (by rfl) (fun K hK => ?_) (AllHIn.cons rfl (by rfl) (fun K hK => ?_) AllHIn.nil)
            · go_simp
              refine (CallsIn.inRound l (callsIn_wide.2 (CA.out _))).mono ?_
              rintro e w3 ⟨rfl, rfl⟩
              refine hK.out _ _ hS ?_
              clear hK K
              iterate 1 (first
                | (refine wpAnyHIn_take 16 (v := ?_) rfl (by kernel_rfl) (by kernel_rfl) (by kernel_rfl) (by decide +kernel) (fun _ _ _ h => h) (fun _ _ _ => trivial) (by rfl) (fun w' hSw => ?_) hS ?_; rotate_left 1; (focus (skip; go_simp; try with_reducible rfl)); simp only [Act.put, List.setIfInBounds_toArray, List.set_cons_zero, List.set_cons_succ]))
              refine wpAnyHIn_ready [17] (by kernel_rfl) (by simp) ?_
              refine AllHIn.cons rfl (by rfl) (fun K hK => ?_) AllHIn.nil
              · go_simp
                have hS := hS.alloc (.cells #[.slice none 0 0, .slice none 0 0, .int .i64 0] 112)
                refine hK.out _ _ hS ?_
                clear hK K
                refine wpAnyHIn_ready [18] (by kernel_rfl) (by simp) ?_
                refine AllHIn.cons rfl (by rfl) (fun K hK => ?_) AllHIn.nil
                go_simp
                refine hK.out _ _ ((((Gr.refl W).alloc _).alloc _).drew) ?_
                clear hK K
                refine wpAnyHIn_done (by kernel_rfl) ?_ _
                gi_wp2
                gi_meet
                exact ⟨_, _, rfl, by omega, Nat.le_refl _, by omega, dual_a W _ _ _ HCS.out⟩
            · go_simp
              have hS := hS.alloc (.cells #[.slice none 0 0, .slice none 0 0, .int .i64 0] 112)
              refine hK.out _ _ hS ?_
              clear hK K
              refine wpAnyHIn_ready [15] (by kernel_rfl) (by simp) ?_
              refine AllHIn.cons rfl (by rfl) (fun K hK => ?_) AllHIn.nil
              · go_simp
                refine (CallsIn.inRound l (callsIn_wide.2 (CA.out _))).mono ?_
                rintro e w3 ⟨rfl, rfl⟩
                refine hK.out _ _ hS ?_
                clear hK K
                iterate 1 (first
                  | (refine wpAnyHIn_take 16 (v := ?_) rfl (by kernel_rfl) (by kernel_rfl) (by kernel_rfl) (by decide +kernel) (fun _ _ _ h => h) (fun _ _ _ => trivial) (by rfl) (fun w' hSw => ?_) hS ?_; rotate_left 1; (focus (skip; go_simp; try with_reducible rfl)); simp only [Act.put, List.setIfInBounds_toArray, List.set_cons_zero, List.set_cons_succ]))
                refine wpAnyHIn_ready [18] (by kernel_rfl) (by simp) ?_
                refine AllHIn.cons rfl (by rfl) (fun K hK => ?_) AllHIn.nil
                go_simp
                refine hK.out _ _ ((((Gr.refl W).alloc _).alloc _).drew) ?_
                clear hK K
                refine wpAnyHIn_done (by kernel_rfl) ?_ _
                gi_wp2
                gi_meet
                exact ⟨_, _, rfl, by omega, Nat.le_refl _, by omega, dual_a W _ _ _ HCS.out⟩
          · go_simp
            refine (CallsIn.inRound l (callsIn_wide.2 (CA.out _))).mono ?_
            rintro e w3 ⟨rfl, rfl⟩
            refine hK.out _ _ hS ?_
            clear hK K
            refine wpAnyHIn_ready [3, 17] (by kernel_rfl) (by simp) ?_
            refine AllHIn.cons rfl (by rfl) (fun K hK => ?_) (AllHIn.cons rfl (by rfl) (fun K hK => ?_) AllHIn.nil)
            · go_simp
              have hS := hS.alloc (.cells cs 3)
              refine hK.out _ _ hS ?_
              clear hK K
              iterate 1 (first
                | (refine wpAnyHIn_take 16 (v := ?_) rfl (by kernel_rfl) (by kernel_rfl) (by kernel_rfl) (by decide +kernel) (fun _ _ _ h => h) (fun _ _ _ => trivial) (by rfl) (fun w' hSw => ?_) hS ?_; rotate_left 1; (focus (skip; go_simp; try with_reducible rfl)); simp only [Act.put, List.setIfInBounds_toArray, List.set_cons_zero, List.set_cons_succ]))
              refine wpAnyHIn_ready [17] (by kernel_rfl) (by simp) ?_
              refine AllHIn.cons rfl (by rfl) (fun K hK => ?_) AllHIn.nil
              · go_simp
                have hS := hS.alloc (.cells #[.slice none 0 0, .slice none 0 0, .int .i64 0] 112)
                refine hK.out _ _ hS ?_
                clear hK K
                refine wpAnyHIn_ready [18] (by kernel_rfl) (by simp) ?_
                refine AllHIn.cons rfl (by rfl) (fun K hK => ?_) AllHIn.nil
                go_simp
                refine hK.out _ _ ((((Gr.refl W).alloc _).alloc _).drew) ?_
                clear hK K
                refine wpAnyHIn_done (by kernel_rfl) ?_ _
                gi_wp2
                gi_meet
                exact ⟨_, _, rfl, by omega, Nat.le_refl _, by omega, dual_a W _ _ _ HCS.out⟩
            · go_simp
              have hS := hS.alloc (.cells #[.slice none 0 0, .slice none 0 0, .int .i64 0] 112)
              refine hK.out _ _ hS ?_
              clear hK K
              refine wpAnyHIn_ready [3] (by kernel_rfl) (by simp) ?_
              refine AllHIn.cons rfl (by rfl) (fun K hK => ?_) AllHIn.nil
              · go_simp
                have hS := hS.alloc (.cells cs 3)
                refine hK.out _ _ hS ?_
                clear hK K
                iterate 1 (first
                  | (refine wpAnyHIn_take 16 (v := ?_) rfl (by kernel_rfl) (by kernel_rfl) (by kernel_rfl) (by decide +kernel) (fun _ _ _ h => h) (fun _ _ _ => trivial) (by rfl) (fun w' hSw => ?_) hS ?_; rotate_left 1; (focus (skip; go_simp; try with_reducible rfl)); simp only [Act.put, List.setIfInBounds_toArray, List.set_cons_zero, List.set_cons_succ]))
                have y := (Gr.refl (W.alloc (.cells #[.slice none 0 0, .slice none 0 0, .int .i64 0] 112))).alloc (.cells cs 3)
                obtain ⟨y0, f0⟩ := y.fresh' (b := W.heap.size) (j := 0) rfl rfl
                obtain ⟨y1, f1⟩ := y.fresh' (b := W.heap.size) (j := 1) rfl rfl
                obtain ⟨y2, f2⟩ := y.fresh' (b := W.heap.size) (j := 2) rfl rfl
                refine wpAnyHIn_ready [18] (by kernel_rfl) (by simp) ?_
                refine AllHIn.cons rfl (by rfl) (fun K hK => ?_) AllHIn.nil
                go_simp
                refine hK.out _ _ ((((Gr.refl W).alloc _).alloc _).drew) ?_
                clear hK K
                refine wpAnyHIn_done (by kernel_rfl) ?_ _
                gi_wp2
                gi_meet
                exact ⟨_, _, rfl, Nat.le_refl _, by omega, by omega, dual_b W _ _ _ HCS.out⟩
          · go_simp
            have hS := hS.alloc (.cells #[.slice none 0 0, .slice none 0 0, .int .i64 0] 112)
            refine hK.out _ _ hS ?_
            clear hK K
            refine wpAnyHIn_ready [3, 15] (by kernel_rfl) (by simp) ?_
            refine AllHIn.cons rfl (by rfl) (fun K hK => ?_) (AllHIn.cons rfl (by rfl) (fun K hK => ?_) AllHIn.nil)
            · go_simp
              have hS := hS.alloc (.cells cs 3)
              refine hK.out _ _ hS ?_
              clear hK K
              refine wpAnyHIn_ready [15] (by kernel_rfl) (by simp) ?_
              refine AllHIn.cons rfl (by rfl) (fun K hK => ?_) AllHIn.nil
              · go_simp
                refine (CallsIn.inRound l (callsIn_wide.2 (CA.out _))).mono ?_
                rintro e w3 ⟨rfl, rfl⟩
                refine hK.out _ _ hS ?_
                clear hK K
                iterate 1 (first
                  | (refine wpAnyHIn_take 16 (v := ?_) rfl (by kernel_rfl) (by kernel_rfl) (by kernel_rfl) (by decide +kernel) (fun _ _ _ h => h) (fun _ _ _ => trivial) (by rfl) (fun w' hSw => ?_) hS ?_; rotate_left 1; (focus (skip; go_simp; try with_reducible rfl)); simp only [Act.put, List.setIfInBounds_toArray, List.set_cons_zero, List.set_cons_succ]))
                have y := (Gr.refl (W.alloc (.cells #[.slice none 0 0, .slice none 0 0, .int .i64 0] 112))).alloc (.cells cs 3)
                obtain ⟨y0, f0⟩ := y.fresh' (b := W.heap.size) (j := 0) rfl rfl
                obtain ⟨y1, f1⟩ := y.fresh' (b := W.heap.size) (j := 1) rfl rfl
                obtain ⟨y2, f2⟩ := y.fresh' (b := W.heap.size) (j := 2) rfl rfl
                refine wpAnyHIn_ready [18] (by kernel_rfl) (by simp) ?_
                refine AllHIn.cons rfl (by rfl) (fun K hK => ?_) AllHIn.nil
                go_simp
                refine hK.out _ _ ((((Gr.refl W).alloc _).alloc _).drew) ?_
                clear hK K
                refine wpAnyHIn_done (by kernel_rfl) ?_ _
                gi_wp2
                gi_meet
                exact ⟨_, _, rfl, Nat.le_refl _, by omega, by omega, dual_b W _ _ _ HCS.out⟩
            · go_simp
              refine (CallsIn.inRound l (callsIn_wide.2 (CA.out _))).mono ?_
              rintro e w3 ⟨rfl, rfl⟩
              refine hK.out _ _ hS ?_
              clear hK K
              refine wpAnyHIn_ready [3] (by kernel_rfl) (by simp) ?_
              refine AllHIn.cons rfl (by rfl) (fun K hK => ?_) AllHIn.nil
              · go_simp
                have hS := hS.alloc (.cells cs 3)
                refine hK.out _ _ hS ?_
                clear hK K
                iterate 1 (first
                  | (refine wpAnyHIn_take 16 (v := ?_) rfl (by kernel_rfl) (by kernel_rfl) (by kernel_rfl) (by decide +kernel) (fun _ _ _ h => h) (fun _ _ _ => trivial) (by rfl) (fun w' hSw => ?_) hS ?_; rotate_left 1; (focus (skip; go_simp; try with_reducible rfl)); simp only [Act.put, List.setIfInBounds_toArray, List.set_cons_zero, List.set_cons_succ]))
                have y := (Gr.refl (W.alloc (.cells #[.slice none 0 0, .slice none 0 0, .int .i64 0] 112))).alloc (.cells cs 3)
                obtain ⟨y0, f0⟩ := y.fresh' (b := W.heap.size) (j := 0) rfl rfl
                obtain ⟨y1, f1⟩ := y.fresh' (b := W.heap.size) (j := 1) rfl rfl
                obtain ⟨y2, f2⟩ := y.fresh' (b := W.heap.size) (j := 2) rfl rfl
                refine wpAnyHIn_ready [18] (by kernel_rfl) (by simp) ?_
                refine AllHIn.cons rfl (by rfl) (fun K hK => ?_) AllHIn.nil
                go_simp
                refine hK.out _ _ ((((Gr.refl W).alloc _).alloc _).drew) ?_
                clear hK K
                refine wpAnyHIn_done (by kernel_rfl) ?_ _
                gi_wp2
                gi_meet
                exact ⟨_, _, rfl, Nat.le_refl _, by omega, by omega, dual_b W _ _ _ HCS.out⟩
        case rest =>
          obtain ⟨bd, bw, rfl, hbd, hbw, hne, gw, y0, y1, y2, hrow⟩ := hcut
          have Y0 := Lib.hid y0
          have Y1 := Lib.hid y1
          have Y2 := Lib.hid y2
          have hx : X i ≠ X k := HW.out.2.2
          have hm : 0 < ab (X i - X k) := by unfold ab; omega
          have xi := (HV.out.ok i i1).1
          have xk := (HV.out.ok k k1).1
          have hm2 : ab (X i - X k) ≤ 200 := by unfold ab; omega
          have hbne : b ≠ bw := by have := World.block_lt_of_cell? W _ ci; simp at this; omega
          have LBb := Lib.hid (World.block_lt_of_cell? W _ ci)
          clear CA MK HCS q1 ci ck xi xk y0 y1 y2 e1 e5
          obtain ⟨N2, hN2⟩ : ∃ N2 : Nat, 2 ^ (onL p n).length = N2 := ⟨_, rfl⟩
          have P3 : N2 ≤ 4096 := by rw [← hN2]; exact Nat.pow_le_pow_right (by omega) LL
          have P2 : (2 : Int) ^ (onL p n).length = (N2 : Int) := by rw [← hN2]; push_cast; rfl
          have HN2 := Lib.hid hN2
          clear hN2
          obtain ⟨mm, hmm⟩ : ∃ mm, ab (X i - X k) = mm := ⟨_, rfl⟩
          rw [hmm] at hm hm2 Y2
          have HM := Lib.hid hmm
          have RW := Lib.hid hrow
          have GC := Lib.hid gw
          have e1 := gw.cell (GW.out.cell d1.out)
          have e5 := gw.cell (GW.out.cell d5.out)
          have lwc : w.heap.size < wc.heap.size := World.block_lt_of_cell? wc _ e1
          have l5 : b5 < wc.heap.size := World.block_lt_of_cell? wc _ e5
          clear hmm hrow gw
          gi_wp2
          have D0 := Lib.hid (show DualAt W bd (.slice (some ⟨b, o, none⟩) n c) (.slice (some ⟨bw, 0, none⟩) n n) (.int .i64 mm) wc from ⟨GC.out, Y0.out, Y1.out, Y2.out⟩)
          clear Y0 Y1 Y2 e1 e5 lwc l5
          gi_loopw [53] (fun s53 wr => ∃ s : Nat, s ≤ N2 ∧ s53 = .int .i64 s ∧ Hid (DualAt W bd (.slice (some ⟨b, o, none⟩) n c) (.slice (some ⟨bw, 0, none⟩) n n) (.int .i64 mm) wr) ∧ Hid (∃ f, RowW wr bw 0 n f) ∧ Hid (∀ t, t < s → solB n X (fin mm r0 (onL p n) t) mm i k = false)) (fun s53 _ => N2 - (intOf s53).toNat)
          case atStart => exact ⟨0, Nat.zero_le _, rfl, D0, Lib.hid ⟨_, RW.out⟩, Lib.hid (fun t h => by omega)⟩
          case round =>
            obtain ⟨s, hs, rfl, D1, RF, NS⟩ := hrel
            have e1 := D1.out.1.cell (GW.out.cell d1.out)
            have e5 := D1.out.1.cell (GW.out.cell d5.out)
            have lwc : w.heap.size < wr.heap.size := World.block_lt_of_cell? wr _ e1
            have l5 : b5 < wr.heap.size := World.block_lt_of_cell? wr _ e5
            by_cases hlt : s < N2
            · have s1 : (s : Int) < (N2 : Int) := by omega
              obtain ⟨f, hf⟩ := RF.out
              have HF0 := Lib.hid hf
              clear hf RF
              gi_wp2
              clear e1 e5 lwc l5
              gi_loopw [58] (fun s58 wr => ∃ q : Nat, q ≤ n ∧ s58 = .int .i64 q ∧ Hid (DualAt W bd (.slice (some ⟨b, o, none⟩) n c) (.slice (some ⟨bw, 0, none⟩) n n) (.int .i64 mm) wr) ∧ Hid (RowW wr bw 0 n (filK mm r0 f q))) (fun s58 _ => n - (intOf s58).toNat)
              case atStart => exact ⟨0, Nat.zero_le _, rfl, D1, Lib.hid (HF0.out.congr fun j _ => by unfold filK; rw [if_neg (by omega)])⟩
              case round =>
                obtain ⟨q, hq, rfl, D2, R2⟩ := hrel
                by_cases hlq : q < n
                · have q1 : (q : Int) < (n : Int) := by omega
                  obtain ⟨b', o', e, hc⟩ := (HR.out.gr (GB.out.trans (GW.out.trans D2.out.1))).at hlq
                  cases e
                  obtain ⟨cx, cy⟩ := hc q hlq
                  obtain ⟨_, v0, v1, v2⟩ := D2.out
                  obtain ⟨t0, t1, t2, _, _, _⟩ := (BX.out.gr GW.out).gr D2.out.1
                  have hp := HV.out.ok q hlq
                  gi_wp2
                  generalize hW6 : wr.alloc (.cells #[.int .i64 (X q), .int .i64 (Y q)] 56) = W6
                  have g6 : Gr wr W6 := by rw [← hW6]; exact (Gr.refl _).alloc _
                  have u0 : W6.cell? ⟨wr.heap.size, 0, none⟩ = some (.int .i64 (X q)) := by rw [← hW6]; exact ((Gr.refl _).fresh' rfl rfl).1
                  have u1 : W6.cell? ⟨wr.heap.size, 1, none⟩ = some (.int .i64 (Y q)) := by rw [← hW6]; exact ((Gr.refl _).fresh' rfl rfl).1
                  have nb2 : wr.heap.size ≠ bw := by have := World.block_lt_of_cell? wr _ (R2.out q hlq).1; simp at this; omega
                  have nb3 : b4 ≠ bw := by have := World.block_lt_of_cell? _ _ (BX.out.gr GW.out).1; simp at this; omega
                  have v1 := g6.cell v1
                  have v2 := g6.cell v2
                  have t0 := g6.cell t0
                  have t1 := g6.cell t1
                  have t2 := g6.cell t2
                  have R6 := Lib.hid (R2.out.gr g6)
                  have D6 := Lib.hid (D2.out.gr g6)
                  have CR := Lib.hid (fun w' => rest_any (X q) (Y q) A B D w' hp HL.out.1)
                  rw [ER.out q] at CR
                  have CC := Lib.hid (fun w' => Compare_any (r0 q) 0 w')
                  have FB := cmp_bd (r0 q) 0
                  have FQ := mul1_bd (Int.le_of_lt hm) FB
                  have qf : IntKind.i64.wrap (mm * cmpI (r0 q) 0) = fil mm r0 q := IntWalk.i64_in _ (by omega)
                  have RF := Lib.hid (filK_succ mm r0 f q)
                  clear hW6 hc cx cy hp v0 FB FQ D2 R2
                  generalize cmpI (r0 q) 0 = cv at *
                  generalize fil mm r0 q = fv at *
                  generalize r0 q = rq at CR CC
                  refine wpIn_region_held (fun w' => Wr bw W6 w') 12 (by kernel_rfl) rfl rfl ?_
                  have hS : Wr bw W6 W6.drew := (Wr.refl bw W6).drew
                  iterate 7 (first
                    | (refine wpAnyHIn_take 0 (v := ?_) rfl (by kernel_rfl) (by kernel_rfl) (by kernel_rfl) (by decide +kernel) (fun _ _ _ h => h) (fun _ _ _ => trivial) (by rfl) (fun w' hSw => ?_) hS ?_; rotate_left 1; (focus (have x1 := hSw.cell v1 hne; have x2 := hSw.cell v2 hne; have x3 := hSw.cell u0 nb2; have x4 := hSw.cell u1 nb2; have x5 := hSw.cell t0 nb3; have x6 := hSw.cell t1 nb3; have x7 := hSw.cell t2 nb3; go_simp; try with_reducible rfl)); simp only [Act.put, List.setIfInBounds_toArray, List.set_cons_zero, List.set_cons_succ])
                    | (refine wpAnyHIn_take 1 (v := ?_) rfl (by kernel_rfl) (by kernel_rfl) (by kernel_rfl) (by decide +kernel) (fun _ _ _ h => h) (fun _ _ _ => trivial) (by rfl) (fun w' hSw => ?_) hS ?_; rotate_left 1; (focus (have x1 := hSw.cell v1 hne; have x2 := hSw.cell v2 hne; have x3 := hSw.cell u0 nb2; have x4 := hSw.cell u1 nb2; have x5 := hSw.cell t0 nb3; have x6 := hSw.cell t1 nb3; have x7 := hSw.cell t2 nb3; go_simp; try with_reducible rfl)); simp only [Act.put, List.setIfInBounds_toArray, List.set_cons_zero, List.set_cons_succ])
                    | (refine wpAnyHIn_take 2 (v := ?_) rfl (by kernel_rfl) (by kernel_rfl) (by kernel_rfl) (by decide +kernel) (fun _ _ _ h => h) (fun _ _ _ => trivial) (by rfl) (fun w' hSw => ?_) hS ?_; rotate_left 1; (focus (have x1 := hSw.cell v1 hne; have x2 := hSw.cell v2 hne; have x3 := hSw.cell u0 nb2; have x4 := hSw.cell u1 nb2; have x5 := hSw.cell t0 nb3; have x6 := hSw.cell t1 nb3; have x7 := hSw.cell t2 nb3; go_simp; try with_reducible rfl)); simp only [Act.put, List.setIfInBounds_toArray, List.set_cons_zero, List.set_cons_succ])
                    | (refine wpAnyHIn_take 3 (v := ?_) rfl (by kernel_rfl) (by kernel_rfl) (by kernel_rfl) (by decide +kernel) (fun _ _ _ h => h) (fun _ _ _ => trivial) (by rfl) (fun w' hSw => ?_) hS ?_; rotate_left 1; (focus (have x1 := hSw.cell v1 hne; have x2 := hSw.cell v2 hne; have x3 := hSw.cell u0 nb2; have x4 := hSw.cell u1 nb2; have x5 := hSw.cell t0 nb3; have x6 := hSw.cell t1 nb3; have x7 := hSw.cell t2 nb3; go_simp; try with_reducible rfl)); simp only [Act.put, List.setIfInBounds_toArray, List.set_cons_zero, List.set_cons_succ])
                    | (refine wpAnyHIn_take 4 (v := ?_) rfl (by kernel_rfl) (by kernel_rfl) (by kernel_rfl) (by decide +kernel) (fun _ _ _ h => h) (fun _ _ _ => trivial) (by rfl) (fun w' hSw => ?_) hS ?_; rotate_left 1; (focus (have x1 := hSw.cell v1 hne; have x2 := hSw.cell v2 hne; have x3 := hSw.cell u0 nb2; have x4 := hSw.cell u1 nb2; have x5 := hSw.cell t0 nb3; have x6 := hSw.cell t1 nb3; have x7 := hSw.cell t2 nb3; go_simp; try with_reducible rfl)); simp only [Act.put, List.setIfInBounds_toArray, List.set_cons_zero, List.set_cons_succ])
                    | (refine wpAnyHIn_take 5 (v := ?_) rfl (by kernel_rfl) (by kernel_rfl) (by kernel_rfl) (by decide +kernel) (fun _ _ _ h => h) (fun _ _ _ => trivial) (by rfl) (fun w' hSw => ?_) hS ?_; rotate_left 1; (focus (have x1 := hSw.cell v1 hne; have x2 := hSw.cell v2 hne; have x3 := hSw.cell u0 nb2; have x4 := hSw.cell u1 nb2; have x5 := hSw.cell t0 nb3; have x6 := hSw.cell t1 nb3; have x7 := hSw.cell t2 nb3; go_simp; try with_reducible rfl)); simp only [Act.put, List.setIfInBounds_toArray, List.set_cons_zero, List.set_cons_succ])
                    | (refine wpAnyHIn_take 6 (v := ?_) rfl (by kernel_rfl) (by kernel_rfl) (by kernel_rfl) (by decide +kernel) (fun _ _ _ h => h) (fun _ _ _ => trivial) (by rfl) (fun w' hSw => ?_) hS ?_; rotate_left 1; (focus (have x1 := hSw.cell v1 hne; have x2 := hSw.cell v2 hne; have x3 := hSw.cell u0 nb2; have x4 := hSw.cell u1 nb2; have x5 := hSw.cell t0 nb3; have x6 := hSw.cell t1 nb3; have x7 := hSw.cell t2 nb3; go_simp; try with_reducible rfl)); simp only [Act.put, List.setIfInBounds_toArray, List.set_cons_zero, List.set_cons_succ]))
                  refine wpAnyHIn_ready [7] (by kernel_rfl) (by simp) ?_
                  refine AllHIn.cons rfl (by rfl) (fun K hK => ?_) AllHIn.nil
                  go_simp
                  refine (CallsIn.inRound l (callsIn_wide.2 (CR.out _))).mono ?_
                  rintro e w3 ⟨rfl, g3⟩
                  have h3 : Gr W6 w3 := (Gr.refl W6).drew.trans g3
                  have hS : Wr bw W6 w3 := Wr.of_gr h3
                  refine hK.out _ _ hS ?_
                  clear hK K g3
                  refine wpAnyHIn_ready [8] (by kernel_rfl) (by simp) ?_
                  refine AllHIn.cons rfl (by rfl) (fun K hK => ?_) AllHIn.nil
                  go_simp
                  refine (CallsIn.inRound l (callsIn_wide.2 (CC.out _))).mono ?_
                  rintro e w4 ⟨rfl, rfl⟩
                  refine hK.out _ _ hS ?_
                  clear hK K
                  iterate 2 (first
                    | (refine wpAnyHIn_take 9 (v := ?_) rfl (by kernel_rfl) (by kernel_rfl) (by kernel_rfl) (by decide +kernel) (fun _ _ _ h => h) (fun _ _ _ => trivial) (by rfl) (fun w' hSw => ?_) hS ?_; rotate_left 1; (focus (skip; go_simp; try with_reducible rfl)); simp only [Act.put, List.setIfInBounds_toArray, List.set_cons_zero, List.set_cons_succ])
                    | (refine wpAnyHIn_take 10 (v := ?_) rfl (by kernel_rfl) (by kernel_rfl) (by kernel_rfl) (by decide +kernel) (fun _ _ _ h => h) (fun _ _ _ => trivial) (by rfl) (fun w' hSw => ?_) hS ?_; rotate_left 1; (focus (skip; go_simp; try with_reducible rfl)); simp only [Act.put, List.setIfInBounds_toArray, List.set_cons_zero, List.set_cons_succ]))
                  have R3 := R6.out.gr h3
                  obtain ⟨cq, fq⟩ := R3 q hlq
                  rw [Nat.zero_add] at cq fq
                  refine wpAnyHIn_ready [11] (by kernel_rfl) (by simp) ?_
                  refine AllHIn.cons rfl (by rfl) (fun K hK => ?_) AllHIn.nil
                  go_simp
                  refine hK.out _ _ (hS.set _ _) ?_
                  clear hK K
                  have R4 := R3.set q fv
                  rw [Nat.zero_add] at R4
                  have D4 := Lib.hid (D6.out.wr (hS.set q (.int .i64 fv)) hbw hne)
                  refine wpAnyHIn_done (by kernel_rfl) ?_ _
                  clear hS cq fq R3
                  gi_wp2
                  go_roundw
                  case rel => exact ⟨q + 1, by omega, by go_num, D4, Lib.hid (by rw [RF.out]; exact R4)⟩
                  case measure => simp [intOf]; omega
                · have eq : q = n := by omega
                  have q1 : (n : Int) ≤ (q : Int) := by omega
                  have R7 := Lib.hid (show RowW wr bw 0 n (sgW mm (onL p n) s (fil mm r0) 0) from R2.out.congr fun j hj => by unfold filK; rw [if_pos (by omega)]; rfl)
                  have e5 := D2.out.1.cell (GW.out.cell d5.out)
                  have l5 : b5 < wr.heap.size := World.block_lt_of_cell? wr _ e5
                  have qd : decide (q < n) = false := by simp; omega
                  clear R2 eq hlq
                  gi_wp2
                  clear e5 l5 q1 qd
                  gi_loopw [77] (fun s77 wy => ∃ t : Nat, t ≤ (onL p n).length ∧ s77 = .int .i64 t ∧ Hid (DualAt W bd (.slice (some ⟨b, o, none⟩) n c) (.slice (some ⟨bw, 0, none⟩) n n) (.int .i64 mm) wy) ∧ Hid (RowW wy bw 0 n (sgW mm (onL p n) s (fil mm r0) t))) (fun s77 _ => (onL p n).length - (intOf s77).toNat)
                  case atStart => exact ⟨0, Nat.zero_le _, rfl, D2, R7⟩
                  case round =>
                    obtain ⟨t, ht, rfl, D3, R8⟩ := hrel
                    by_cases hlt2 : t < (onL p n).length
                    · have t1 : (t : Int) < ((onL p n).length : Int) := by omega
                      obtain ⟨ba, oa, rfl, hc⟩ := (HLI.out.gr (GW.out.trans D3.out.1)).at hlt2
                      have cz := hc t hlt2
                      obtain ⟨hz, _⟩ := onL_rd hlt2
                      rw [show nf (onL p n) t = (((onL p n).getD t 0 : Nat) : Int) from rfl] at cz
                      obtain ⟨_, v1, v2⟩ := D3.out.2
                      have RS := Lib.hid (show sgW mm (onL p n) s (fil mm r0) (t + 1) = upd (sgW mm (onL p n) s (fil mm r0) t) ((onL p n).getD t 0) (mm * (2 * ((s / 2 ^ t % 2 : Nat) : Int) - 1)) from rfl)
                      have BQ := bit64 (s := s) (t := t) (by omega)
                      have cb2 : s / 2 ^ t % 2 < 2 := Nat.mod_lt _ (by omega)
                      generalize (onL p n).getD t 0 = z at *
                      have z1 : (z : Int) < (n : Int) := by omega
                      obtain ⟨cb, hcb⟩ : ∃ cb, s / 2 ^ t % 2 = cb := ⟨_, rfl⟩
                      rw [hcb] at BQ RS cb2
                      have w1' : IntKind.i64.wrap (2 * (cb : Int)) = 2 * (cb : Int) := IntWalk.i64_in _ (by omega)
                      obtain ⟨sg, hsg⟩ : ∃ sg : Int, 2 * (cb : Int) - 1 = sg := ⟨_, rfl⟩
                      have w2' : IntKind.i64.wrap (2 * (cb : Int) - 1) = sg := by rw [← hsg]; exact IntWalk.i64_in _ (by omega)
                      have FQ := mul1_bd (Int.le_of_lt hm) (show -1 ≤ sg ∧ sg ≤ 1 by omega)
                      have w3a : IntKind.i64.wrap (mm * sg) = mm * sg := IntWalk.i64_in _ (by omega)
                      rw [hsg] at RS
                      obtain ⟨fv, hfv⟩ : ∃ fv, mm * sg = fv := ⟨_, rfl⟩
                      rw [hfv] at RS FQ
                      have w3' : IntKind.i64.wrap (mm * sg) = fv := by rw [w3a, hfv]
                      clear FQ hsg hcb hc hfv w3a
                      obtain ⟨cq, fq⟩ := R8.out z hz
                      rw [Nat.zero_add] at cq fq
                      have R9 := R8.out.set z fv
                      rw [Nat.zero_add] at R9
                      have D5 := Lib.hid (D3.out.wr ((Wr.refl bw wr).set z (.int .i64 fv)) hbw hne)
                      have R9 := Lib.hid R9
                      have lba : ba < wr.heap.size := World.block_lt_of_cell? wr _ cz
                      gi_wp2
                      refine wpIn_region_held (fun w' => Wr bw wr w') 14 (by kernel_rfl) rfl rfl ?_
                      have hS : Wr bw wr wr.drew := (Wr.refl bw wr).drew
                      iterate 13 (first
                        | (refine wpAnyHIn_take 0 (v := ?_) rfl (by kernel_rfl) (by kernel_rfl) (by kernel_rfl) (by decide +kernel) (fun _ _ _ h => h) (fun _ _ _ => trivial) (by rfl) (fun w' hSw => ?_) hS ?_; rotate_left 1; (focus (have x1 := hSw.cell v1 hne; have x2 := hSw.cell v2 hne; go_simp; try with_reducible rfl)); simp only [Act.put, List.setIfInBounds_toArray, List.set_cons_zero, List.set_cons_succ])
                        | (refine wpAnyHIn_take 1 (v := ?_) rfl (by kernel_rfl) (by kernel_rfl) (by kernel_rfl) (by decide +kernel) (fun _ _ _ h => h) (fun _ _ _ => trivial) (by rfl) (fun w' hSw => ?_) hS ?_; rotate_left 1; (focus (have x1 := hSw.cell v1 hne; have x2 := hSw.cell v2 hne; go_simp; try with_reducible rfl)); simp only [Act.put, List.setIfInBounds_toArray, List.set_cons_zero, List.set_cons_succ])
                        | (refine wpAnyHIn_take 2 (v := ?_) rfl (by kernel_rfl) (by kernel_rfl) (by kernel_rfl) (by decide +kernel) (fun _ _ _ h => h) (fun _ _ _ => trivial) (by rfl) (fun w' hSw => ?_) hS ?_; rotate_left 1; (focus (have x1 := hSw.cell v1 hne; have x2 := hSw.cell v2 hne; go_simp; try with_reducible rfl)); simp only [Act.put, List.setIfInBounds_toArray, List.set_cons_zero, List.set_cons_succ])
                        | (refine wpAnyHIn_take 3 (v := ?_) rfl (by kernel_rfl) (by kernel_rfl) (by kernel_rfl) (by decide +kernel) (fun _ _ _ h => h) (fun _ _ _ => trivial) (by rfl) (fun w' hSw => ?_) hS ?_; rotate_left 1; (focus (have x1 := hSw.cell v1 hne; have x2 := hSw.cell v2 hne; go_simp; try with_reducible rfl)); simp only [Act.put, List.setIfInBounds_toArray, List.set_cons_zero, List.set_cons_succ])
                        | (refine wpAnyHIn_take 4 (v := ?_) rfl (by kernel_rfl) (by kernel_rfl) (by kernel_rfl) (by decide +kernel) (fun _ _ _ h => h) (fun _ _ _ => trivial) (by rfl) (fun w' hSw => ?_) hS ?_; rotate_left 1; (focus (have x1 := hSw.cell v1 hne; have x2 := hSw.cell v2 hne; go_simp; try with_reducible rfl)); simp only [Act.put, List.setIfInBounds_toArray, List.set_cons_zero, List.set_cons_succ])
                        | (refine wpAnyHIn_take 5 (v := ?_) rfl (by kernel_rfl) (by kernel_rfl) (by kernel_rfl) (by decide +kernel) (fun _ _ _ h => h) (fun _ _ _ => trivial) (by rfl) (fun w' hSw => ?_) hS ?_; rotate_left 1; (focus (have x1 := hSw.cell v1 hne; have x2 := hSw.cell v2 hne; go_simp; try with_reducible rfl)); simp only [Act.put, List.setIfInBounds_toArray, List.set_cons_zero, List.set_cons_succ])
                        | (refine wpAnyHIn_take 6 (v := ?_) rfl (by kernel_rfl) (by kernel_rfl) (by kernel_rfl) (by decide +kernel) (fun _ _ _ h => h) (fun _ _ _ => trivial) (by rfl) (fun w' hSw => ?_) hS ?_; rotate_left 1; (focus (have x1 := hSw.cell v1 hne; have x2 := hSw.cell v2 hne; go_simp; try with_reducible rfl)); simp only [Act.put, List.setIfInBounds_toArray, List.set_cons_zero, List.set_cons_succ])
                        | (refine wpAnyHIn_take 7 (v := ?_) rfl (by kernel_rfl) (by kernel_rfl) (by kernel_rfl) (by decide +kernel) (fun _ _ _ h => h) (fun _ _ _ => trivial) (by rfl) (fun w' hSw => ?_) hS ?_; rotate_left 1; (focus (have x1 := hSw.cell v1 hne; have x2 := hSw.cell v2 hne; go_simp; try with_reducible rfl)); simp only [Act.put, List.setIfInBounds_toArray, List.set_cons_zero, List.set_cons_succ])
                        | (refine wpAnyHIn_take 8 (v := ?_) rfl (by kernel_rfl) (by kernel_rfl) (by kernel_rfl) (by decide +kernel) (fun _ _ _ h => h) (fun _ _ _ => trivial) (by rfl) (fun w' hSw => ?_) hS ?_; rotate_left 1; (focus (have x1 := hSw.cell v1 hne; have x2 := hSw.cell v2 hne; go_simp; try with_reducible rfl)); simp only [Act.put, List.setIfInBounds_toArray, List.set_cons_zero, List.set_cons_succ])
                        | (refine wpAnyHIn_take 9 (v := ?_) rfl (by kernel_rfl) (by kernel_rfl) (by kernel_rfl) (by decide +kernel) (fun _ _ _ h => h) (fun _ _ _ => trivial) (by rfl) (fun w' hSw => ?_) hS ?_; rotate_left 1; (focus (have x1 := hSw.cell v1 hne; have x2 := hSw.cell v2 hne; go_simp; try with_reducible rfl)); simp only [Act.put, List.setIfInBounds_toArray, List.set_cons_zero, List.set_cons_succ])
                        | (refine wpAnyHIn_take 10 (v := ?_) rfl (by kernel_rfl) (by kernel_rfl) (by kernel_rfl) (by decide +kernel) (fun _ _ _ h => h) (fun _ _ _ => trivial) (by rfl) (fun w' hSw => ?_) hS ?_; rotate_left 1; (focus (have x1 := hSw.cell v1 hne; have x2 := hSw.cell v2 hne; go_simp; try with_reducible rfl)); simp only [Act.put, List.setIfInBounds_toArray, List.set_cons_zero, List.set_cons_succ])
                        | (refine wpAnyHIn_take 11 (v := ?_) rfl (by kernel_rfl) (by kernel_rfl) (by kernel_rfl) (by decide +kernel) (fun _ _ _ h => h) (fun _ _ _ => trivial) (by rfl) (fun w' hSw => ?_) hS ?_; rotate_left 1; (focus (have x1 := hSw.cell v1 hne; have x2 := hSw.cell v2 hne; go_simp; try with_reducible rfl)); simp only [Act.put, List.setIfInBounds_toArray, List.set_cons_zero, List.set_cons_succ])
                        | (refine wpAnyHIn_take 12 (v := ?_) rfl (by kernel_rfl) (by kernel_rfl) (by kernel_rfl) (by decide +kernel) (fun _ _ _ h => h) (fun _ _ _ => trivial) (by rfl) (fun w' hSw => ?_) hS ?_; rotate_left 1; (focus (have x1 := hSw.cell v1 hne; have x2 := hSw.cell v2 hne; go_simp; try with_reducible rfl)); simp only [Act.put, List.setIfInBounds_toArray, List.set_cons_zero, List.set_cons_succ]))
                      refine wpAnyHIn_ready [13] (by kernel_rfl) (by simp) ?_
                      refine AllHIn.cons rfl (by rfl) (fun K hK => ?_) AllHIn.nil
                      go_simp
                      refine hK.out _ _ (((Wr.refl bw wr).set _ _).drew) ?_
                      clear hK K
                      refine wpAnyHIn_done (by kernel_rfl) ?_ _
                      clear hS cq fq
                      gi_wp2
                      go_roundw
                      case rel => exact ⟨t + 1, by omega, by go_num, Lib.hid (D5.out.gr ((Gr.refl _).drew)), Lib.hid (by rw [RS.out]; exact R9.out.gr ((Gr.refl _).drew))⟩
                      case measure => simp [intOf]; omega
                    · have et : t = (onL p n).length := by omega
                      have R9 := Lib.hid (show RowW wr bw 0 n (fin mm r0 (onL p n) s) by unfold fin; rw [← et]; exact R8.out)
                      have t1 : ((onL p n).length : Int) ≤ (t : Int) := by omega
                      have BF := Lib.hid (show ∀ j, j < n → -200 ≤ fin mm r0 (onL p n) s j ∧ fin mm r0 (onL p n) s j ≤ 200 from fun j _ => by
                        obtain ⟨e, he, be⟩ := fin_mul mm r0 (onL p n) s (onL p n).length j
                        have := mul1_bd (Int.le_of_lt hm) be
                        rw [show fin mm r0 (onL p n) s j = mm * e from he]
                        omega)
                      have CS := Lib.hid (solve_any b o n c bw 0 n X Y mm i k (fin mm r0 (onL p n) s) wr n12 (fun j hj => (HV.out.ok j hj).1) BF.out i1 k1 hx (HR.out.gr (GB.out.trans (GW.out.trans D3.out.1))) R9.out hbne)
                      obtain ⟨v0, v1, v2⟩ := D3.out.2
                      have lbd : bd < wr.heap.size := World.block_lt_of_cell? wr _ v0
                      clear R8 et hlt2
                      cases hb : solB n X (fin mm r0 (onL p n) s) mm i k with
                      | false =>
                        rw [hb] at CS
                        have NS2 := Lib.hid (show ∀ t, t < s + 1 → solB n X (fin mm r0 (onL p n) t) mm i k = false from fun t ht => by
                          by_cases e : t = s
                          · rw [e]; exact hb
                          · exact NS.out t (by omega))
                        clear hb
                        gi_wp2_with (gi_at_call 97; (with_reducible refine (CallsIn.inRound l (callsIn_wide.2 CS.out)).mono ?_); rintro e w5 ⟨rfl, g5, R5⟩)
                        have D5 := Lib.hid (D3.out.wr g5 hbw hne)
                        have R5 := Lib.hid R5
                        clear g5
                        go_roundw
                        case rel => exact ⟨s + 1, by omega, by go_num, D5, Lib.hid ⟨_, R5.out⟩, NS2⟩
                        case measure => simp [intOf]; omega
                      | true =>
                        rw [hb] at CS
                        have GO := Lib.hid (good_of (s := s) EP.out (fun j hj => (HV.out.ok j hj).1) i1 k1 hx hpi hpk (by rw [HM.out]; exact hb))
                        rw [HM.out] at GO
                        clear hb
                        gi_wp2_with (gi_at_call 97; (with_reducible refine (CallsIn.inRound l (callsIn_wide.2 CS.out)).mono ?_); rintro e w5 ⟨rfl, g5, R5⟩)
                        have D5 := Lib.hid (D3.out.wr g5 hbw hne)
                        have R5 := Lib.hid R5
                        obtain ⟨G5, v0, v1, v2⟩ := D5.out
                        have GX := (GW.out.trans G5)
                        obtain ⟨k2c, k2f⟩ := d2.out
                        obtain ⟨k3c, k3f⟩ := d3.out
                        have m2 := GX.cell k2c
                        have f2 := (Below.frozen GX (World.block_lt_of_cell? Wb _ k2c)).trans k2f
                        have m3 := GX.cell k3c
                        have f3 := (Below.frozen GX (World.block_lt_of_cell? Wb _ k3c)).trans k3f
                        have LX := World.block_lt_of_cell? Wb _ k3c
                        have LW := Gr.size GW.out
                        simp only at LX
                        have nd : ¬ (bd = w.heap.size + 1 ∨ bd = w.heap.size + 1 + 1) := by omega
                        have nw : ¬ (bw = w.heap.size + 1 ∨ bw = w.heap.size + 1 + 1) := by omega
                        have x3 := cell_far (k := 0) m3 (show w.heap.size + 1 ≠ w.heap.size + 1 + 1 by omega) (.slice (some ⟨bw, 0, none⟩) n n)
                        have y3 : (w5.setCell ⟨w.heap.size + 1, 0, none⟩ (.slice (some ⟨bw, 0, none⟩) n n)).frozen? ⟨w.heap.size + 1 + 1, 0, none⟩ = false := by simpa using f3
                        clear k2c k2f k3c k3f g5 CS v0
                        refine wpIn_region_held (fun w' => Wx (fun k => k = w.heap.size + 1 ∨ k = w.heap.size + 1 + 1) w5 w') 6 (by kernel_rfl) rfl rfl ?_
                        have hS : Wx (fun k => k = w.heap.size + 1 ∨ k = w.heap.size + 1 + 1) w5 w5.drew := Wx.of_gr ((Gr.refl w5).drew)
                        iterate 4 (first
                          | (refine wpAnyHIn_take 0 (v := ?_) rfl (by kernel_rfl) (by kernel_rfl) (by kernel_rfl) (by decide +kernel) (fun _ _ _ h => h) (fun _ _ _ => trivial) (by rfl) (fun w' hSw => ?_) hS ?_; rotate_left 1; (focus (have x1 := hSw.cell v1 nd; have x2 := hSw.cell v2 nd; go_simp; try with_reducible rfl)); simp only [Act.put, List.setIfInBounds_toArray, List.set_cons_zero, List.set_cons_succ])
                          | (refine wpAnyHIn_take 1 (v := ?_) rfl (by kernel_rfl) (by kernel_rfl) (by kernel_rfl) (by decide +kernel) (fun _ _ _ h => h) (fun _ _ _ => trivial) (by rfl) (fun w' hSw => ?_) hS ?_; rotate_left 1; (focus (have x1 := hSw.cell v1 nd; have x2 := hSw.cell v2 nd; go_simp; try with_reducible rfl)); simp only [Act.put, List.setIfInBounds_toArray, List.set_cons_zero, List.set_cons_succ])
                          | (refine wpAnyHIn_take 2 (v := ?_) rfl (by kernel_rfl) (by kernel_rfl) (by kernel_rfl) (by decide +kernel) (fun _ _ _ h => h) (fun _ _ _ => trivial) (by rfl) (fun w' hSw => ?_) hS ?_; rotate_left 1; (focus (have x1 := hSw.cell v1 nd; have x2 := hSw.cell v2 nd; go_simp; try with_reducible rfl)); simp only [Act.put, List.setIfInBounds_toArray, List.set_cons_zero, List.set_cons_succ])
                          | (refine wpAnyHIn_take 3 (v := ?_) rfl (by kernel_rfl) (by kernel_rfl) (by kernel_rfl) (by decide +kernel) (fun _ _ _ h => h) (fun _ _ _ => trivial) (by rfl) (fun w' hSw => ?_) hS ?_; rotate_left 1; (focus (have x1 := hSw.cell v1 nd; have x2 := hSw.cell v2 nd; go_simp; try with_reducible rfl)); simp only [Act.put, List.setIfInBounds_toArray, List.set_cons_zero, List.set_cons_succ]))
                        refine wpAnyHIn_ready [4] (by kernel_rfl) (by simp) ?_
                        refine AllHIn.cons rfl (by rfl) (fun K hK => ?_) AllHIn.nil
                        go_simp
                        refine hK.out _ _ (((Wx.refl _ w5).set (.inl rfl) 0 _).trans (Wx.of_gr ((Gr.refl _).drew))) ?_
                        clear hK K
                        refine wpAnyHIn_ready [5] (by kernel_rfl) (by simp) ?_
                        refine AllHIn.cons rfl (by rfl) (fun K hK => ?_) AllHIn.nil
                        go_simp
                        refine hK.out _ _ ((((Wx.refl _ w5).set (.inl rfl) 0 _).set (.inr rfl) 0 _).trans (Wx.of_gr ((Gr.refl _).drew))) ?_
                        clear hK K
                        refine wpAnyHIn_done (by kernel_rfl) ?_ _
                        gi_wp2
                        refine ⟨(((Gr.others G5).trans (KeepsOthers.setCell _ _ _)).trans (KeepsOthers.setCell _ _ _)).trans (Gr.others ((Gr.refl _).drew)), rfl, ?_⟩
                        have hk' := fun q (hq : q = w.heap.size + 1 ∨ q = w.heap.size + 1 + 1) => (show w.heap.size ≤ q by omega)
                        have FX := (((Wx.refl (fun k => k = w.heap.size + 1 ∨ k = w.heap.size + 1 + 1) w5).set (.inl rfl) 0 (.slice (some ⟨bw, 0, none⟩) n n)).set (.inr rfl) 0 (.int .i64 mm)).trans (Wx.of_gr ((Gr.refl _).drew))
                        refine ⟨FX.gr (GB.out.trans GX) hk', bw, n, mm, _, Nat.le_refl _, by unfold maxLen; omega, GO.out, ?_, ?_, fun j hj => FX.cell (R5.out j hj).1 nw⟩
                        · exact izt_a m2
                        · exact izt_b m3 (by omega)
            · have es : s = N2 := by omega
              gi_wp2
              exact II.out.skip HW.out (fun _ _ t ht => by rw [HM.out]; exact NS.out t (by rw [es, ← HN2.out]; exact ht)) D1.out.1
  case done =>
    rintro D' xs W hD hxs hI hK
    obtain ⟨q, hq, h1, h2, s, hs, hsb⟩ := HF.out
    exact absurd (hI.2.1 q (by rw [hxs]; exact hq) h1 h2 s hs) (by rw [hsb]; simp)
  case stop =>
    rintro D' pre W hD hZ hK
    have Z := (Izt.own n X r0 (w.heap.size + 1) (w.heap.size + 1 + 1) Wb.heap.size w (Gr.size GB.out)).putObj (.deferred none) hZ hD hK rfl
    have HZ := Lib.hid Z
    clear hZ Z
    gi_wp2
    refine ⟨by simp, .inl ⟨_, _, rfl, run_takeDeferred hK, ?_⟩⟩
    obtain ⟨zg, bw, cw, m, Wt, c1, c2, c3, c4, c5, c6⟩ := HZ.out
    exact ⟨.tuple #[.slice (some ⟨bw, 0, none⟩) n cw, .int .i64 m], by simp [results, Try.f80, go_sem, c4, c5], bw, cw, m, Wt, rfl, c1, c2, c3, .inr ⟨bw, 0, rfl, c6⟩, zg⟩

end Go.Proofs.Ytbhndfnfohoidaa
