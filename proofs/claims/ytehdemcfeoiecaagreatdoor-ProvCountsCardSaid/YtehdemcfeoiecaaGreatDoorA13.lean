import Derived.Test.YtehdemcfeoiecaaGreatDoorA06
import Derived.Test.YtehdemcfeoiecaaGreatDoorA12
set_option maxHeartbeats 64000000
set_option maxRecDepth 100000
namespace Go.Proofs.YtehdemcfeoiecaaGreatDoor
open Go.RowKit Go.Firn Go.Firn.Tb RE
theorem wpIn_cat_rd {F : Fence} {fn : Nat} {o : Oper} {a : Act} {K : Act → World → Prop} {Q : Exit → Act → World → Prop} (s x : Operand)
  (ho : o.op = .call { callee := .builtin .append, args := #[s, x], argTypes := #[23, 23] })
  {w0 w : World} (v : Value) (L M : List Int) (hs : a.eval s = v) (hown : OwnL w0 w v L) (ad : Option Addr) (n c : Nat) (hx : a.eval x = .slice ad n c) (hM : Rd3 w ad n c M) (hk : L.length + n ≤ 1000000)
  (h : ∀ v' w', OwnL w0 w' v' (L ++ M) → w.grownBy w' v.ownBlock → K (a.put o.dst v') w') : o.wpIn F fn Tryz.prog a w K Q := by
 obtain ⟨i0, hi, hz0, hz1, hz2⟩ := info_int info3
 by_cases hn : n = 0
 ·subst hn
  obtain rfl : M = [] := List.length_eq_zero_iff.1 hM.1.symm
  cases ad with
  | none =>
   have hc := hM.2.2.2.1 rfl
   subst hc
   have hr := run_append_owned_none (P := Tryz.prog) w w0.heap.size 23 o.type 3 i0 1 Tryz.underlying23 hi v L.length (L.map (Value.int .i64)) hown.1
   exact wpIn_run s x 23 ho hs hx hr (h v w (by rw [List.append_nil]; exact hown) (World.grownBy.refl _ _))
  | some p =>
   obtain ⟨v', w', hr, h1, h2, _⟩ := run_append_own (P := Tryz.prog) w w0.heap.size 23 o.type 3 i0 (.int .i64 0) 1 8 Tryz.underlying23 hi hz0 hz1 hz2 rfl (by decide) v L.length (L.map (Value.int .i64)) hown.1 p 0 c [] rfl (fun j u hu => by simp at hu) (fun u hu => by cases hu) (by unfold maxLen; omega) (by omega) hown.2.size
   rw [List.append_nil] at h1
   exact wpIn_run s x 23 ho hs hx hr (h v' w' (by rw [List.append_nil]; exact ⟨h1, hown.2.grown h2 fun k hk => (hown.1.lt k hk).1⟩) h2)
 obtain ⟨b, off, rfl, hc⟩ := hM.2.2.2.2.at (Nat.pos_of_ne_zero hn)
 exact wpIn_cat_ints s x ho v L M hs hown b off n c hx hM.1 hc hk h
theorem Rd3.drop1 {w : World} {b off n c : Nat} {L : List Int} (h : Rd3 w (some ⟨b, off, none⟩) n c L) (hn : 1 ≤ n) : Rd3 w (some ⟨b, off + 1, none⟩) (n - 1) (c - 1) (L.drop 1) := by
 refine ⟨by rw [List.length_drop]; have := h.1; omega, by have := h.2.1; omega, by have := h.2.2.1; omega, (fun e => by cases e), ?_⟩
 obtain ⟨b', o', e, hc⟩ := h.2.2.2.2.at (show 0 < n by omega)
 cases e
 refine .inr ⟨b, off + 1, rfl, fun i hi => ?_⟩
 have := hc (i + 1) (by omega)
 rw [show off + 1 + i = off + (i + 1) by omega, this]
 unfold iv
 simp
def BoxH (W : World) (b : Nat) : Prop := W.heap[b]? = some (.cells #[.slice none 0 0, .slice none 0 0, .int .i64 0] 81 (0, 0))
theorem BoxH.gr {W W' : World} {b : Nat} (h : BoxH W b) (g : Gr W W') : BoxH W' b := (Below.block g b (Array.getElem?_eq_some_iff.1 h).1).trans h
theorem BoxH.ne {w0 W : World} {b : Nat} {v : Value} {L : List Int} (h : BoxH W b) (ho : OwnL w0 W v L) : v.ownBlock ≠ some b := by
 intro e
 obtain ⟨⟨_, hv⟩, _⟩ := ho
 rcases hv with ⟨rfl, _⟩ | ⟨g, cap, cur, rfl, _, hg, _⟩
 ·cases e
 cases e
 unfold BoxH at h
 rw [h] at hg
 cases hg
theorem BoxH.grown {w0 W W' : World} {b : Nat} {v : Value} {L : List Int} (h : BoxH W b) (ho : OwnL w0 W v L) (g : W.grownBy W' v.ownBlock) : BoxH W' b :=
 (g.block b (Array.getElem?_eq_some_iff.1 h).1 (fun e => h.ne ho e.symm)).trans h
theorem BoxH.st {W : World} {b : Nat} (h : BoxH W b) : St3 W b := by
 refine ⟨⟨_, _, _, (cell_of_row W b 0 _ 81 (0, 0) h).trans rfl, (cell_of_row W b 1 _ 81 (0, 0) h).trans rfl, (cell_of_row W b 2 _ 81 (0, 0) h).trans rfl⟩, frozen_of_row W b 0 _ 81 h, frozen_of_row W b 1 _ 81 h, frozen_of_row W b 2 _ 81 h⟩
theorem OwnL.far3 {w0 W : World} {b : Nat} {v : Value} {L : List Int} (ho : OwnL w0 W v L) (hb : w0.heap.size ≤ b) (hne : v.ownBlock ≠ some b) {W' : World} (g : W.grownBy W' (some b)) : OwnL w0 W' v L := by
 refine ⟨ho.1.kept g ?_, ho.2.grown g fun k hk => by cases hk; exact hb⟩
 cases hv : v.ownBlock with
 | none => exact .inl rfl
 | some k =>
  right
  intro e
  exact hne (by rw [hv, e])
theorem put3w {W : World} {b : Nat} (h : St3 W b) (v0 v1 v2 : Value) : ∃ W', ((W.setCell ⟨b, 0, none⟩ v0).setCell ⟨b, 1, none⟩ v1).setCell ⟨b, 2, none⟩ v2 = W' ∧ W.grownBy W' (some b) ∧ St3 W' b ∧ W'.cell? ⟨b, 0, none⟩ = some v0 ∧ W'.cell? ⟨b, 1, none⟩ = some v1 ∧ W'.cell? ⟨b, 2, none⟩ = some v2 := by
 refine ⟨_, rfl, ?_, h.set v0 v1 v2, ?_⟩
 ·exact (((Wr.refl b W).set 0 v0).set 1 v1).set 2 v2
 obtain ⟨⟨u0, u1, u2, x0, x1, x2⟩, f0, f1, f2⟩ := h
 refine ⟨?_, ?_, ?_⟩
 ·rw [World.cell?_setCell_other _ _ _ _ (by simp), World.cell?_setCell_other _ _ _ _ (by simp)]
  exact cell_near x0 _
 ·rw [World.cell?_setCell_other _ _ _ _ (by simp)]
  exact cell_near (by rw [World.cell?_setCell_other _ _ _ _ (by simp)]; exact x1) _
 exact cell_near (by rw [World.cell?_setCell_other _ _ _ _ (by simp), World.cell?_setCell_other _ _ _ _ (by simp)]; exact x2) _
theorem put1w {W : World} {b : Nat} (h : St3 W b) {v0 v1 : Value} (n0 : W.cell? ⟨b, 0, none⟩ = some v0) (n1 : W.cell? ⟨b, 1, none⟩ = some v1) (v2 : Value) : ∃ W', W.setCell ⟨b, 2, none⟩ v2 = W' ∧ W.grownBy W' (some b) ∧ St3 W' b ∧ W'.cell? ⟨b, 0, none⟩ = some v0 ∧ W'.cell? ⟨b, 1, none⟩ = some v1 ∧ W'.cell? ⟨b, 2, none⟩ = some v2 := by
 obtain ⟨⟨u0, u1, u2, x0, x1, x2⟩, f0, f1, f2⟩ := h
 have m0 : (W.setCell ⟨b, 2, none⟩ v2).cell? ⟨b, 0, none⟩ = some v0 := by rw [World.cell?_setCell_other _ _ _ _ (by simp)]; exact n0
 have m1 : (W.setCell ⟨b, 2, none⟩ v2).cell? ⟨b, 1, none⟩ = some v1 := by rw [World.cell?_setCell_other _ _ _ _ (by simp)]; exact n1
 have m2 : (W.setCell ⟨b, 2, none⟩ v2).cell? ⟨b, 2, none⟩ = some v2 := cell_near x2 _
 refine ⟨_, rfl, (Wr.refl b W).set 2 v2, ⟨⟨_, _, _, m0, m1, m2⟩, ?_, ?_, ?_⟩, m0, m1, m2⟩
 ·rw [World.frozen?_setCell]; exact f0
 ·rw [World.frozen?_setCell]; exact f1
 rw [World.frozen?_setCell]; exact f2
theorem OwnL.old {w0 w : World} {a : Option Addr} {n c : Nat} {L : List Int} (h : OwnL w0 w (.slice a n c) L) (hn : n = L.length) : ∀ w1, Old w1 w 3 n a := fun w1 => by
 obtain ⟨⟨_, hv⟩, _⟩ := h
 rcases hv with ⟨_, hz⟩ | ⟨g, cap, cur, e, _, hg, _⟩
 ·exact .inl (by omega)
 cases e
 exact .inr fun ad hd => by
  cases hd
  exact .inr ⟨_, _, hg⟩
def RetR1 (r : List Int × (SL × Int)) (w : World) (e : Ending) (w' : World) : Prop := ∃ a n c, e = .returned (.agg #[.slice a n c, .slice none 0 0, .int .i64 r.2.2]) ∧ r.2.1 = [] ∧ Gr w w' ∧ Rd3 w' a n c r.1 ∧ ∀ w0, Old w0 w' 3 n a
theorem joined_any (how : Int) (hh : how = 2 ∨ how = 3) (w : World) (xa : Option Addr) (xn xc : Nat) (xfa : Option Addr) (xfn xfc : Nat) (xy : Int) (yb yo yn yc : Nat) (yfa : Option Addr) (yfn yfc : Nat) (yy : Int) (xv yv : List Int) (xL yL : SL)
  (hx : Rd3 w xa xn xc xv) (hy : Rd3 w (some ⟨yb, yo, none⟩) yn yc yv) (hy1 : 1 ≤ yn) (hl : xn ≤ 1000 ∧ yn ≤ 1000) (bx : 0 ≤ xy ∧ xy ≤ 1000000000000001) (by_ : 0 ≤ yy ∧ yy ≤ 1000000000000001) (hp : how = 2 → 1 ≤ yy) :
  Calls Tryz.prog 117 #[.agg #[.slice xa xn xc, .slice xfa xfn xfc, .int .i64 xy], .agg #[.slice (some ⟨yb, yo, none⟩) yn yc, .slice yfa yfn yfc, .int .i64 yy], .int .i64 how] w (RetR1 (xv ++ yv.drop 1, mulH how (xL, xy) (yL, yy)) w) := by
 obtain ⟨w1, hw1⟩ : ∃ W, w.alloc (.cells #[.slice xa xn xc, .slice xfa xfn xfc, .int .i64 xy] 81) = W := ⟨_, rfl⟩
 obtain ⟨w2, hw2⟩ : ∃ W, w1.alloc (.cells #[.slice (some ⟨yb, yo, none⟩) yn yc, .slice yfa yfn yfc, .int .i64 yy] 81) = W := ⟨_, rfl⟩
 obtain ⟨w3, hw3⟩ : ∃ W, w2.alloc (.cells #[.slice none 0 0, .slice none 0 0, .int .i64 0] 81) = W := ⟨_, rfl⟩
 have g1 : Gr w w1 := hw1 ▸ (Gr.refl w).alloc _
 have g2 : Gr w1 w2 := hw2 ▸ (Gr.refl w1).alloc _
 have g3 : Gr w2 w3 := hw3 ▸ (Gr.refl w2).alloc _
 obtain ⟨x0, x1, x2⟩ : w1.cell? ⟨w.heap.size, 0, none⟩ = some (.slice xa xn xc) ∧ w1.cell? ⟨w.heap.size, 1, none⟩ = some (.slice xfa xfn xfc) ∧ w1.cell? ⟨w.heap.size, 2, none⟩ = some (.int .i64 xy) := by rw [← hw1]; exact row_box w _ _ _ _ _ _ _ 81
 obtain ⟨y0, y1, y2⟩ : w2.cell? ⟨w1.heap.size, 0, none⟩ = some (.slice (some ⟨yb, yo, none⟩) yn yc) ∧ w2.cell? ⟨w1.heap.size, 1, none⟩ = some (.slice yfa yfn yfc) ∧ w2.cell? ⟨w1.heap.size, 2, none⟩ = some (.int .i64 yy) := by rw [← hw2]; exact row_box w1 _ _ _ _ _ _ _ 81
 have HZ := Lh (show St3 w3 w2.heap.size from (show BoxH w3 w2.heap.size from hw3 ▸ heap_alloc_new w2 _).st)
 have HZb := Lh (show w.heap.size ≤ w2.heap.size ∧ w2.heap.size < w3.heap.size from ⟨(g1.trans g2).size, by rw [← hw3]; simp⟩)
 have HG3 := Lh (g1.trans (g2.trans g3))
 replace x0 := (g2.trans g3).cell x0
 have PX := Lh ((g2.trans g3).cell x2)
 replace y0 := g3.cell y0
 have PY := Lh (g3.cell y2)
 have HXV := Lh (fun W (k : Gr w3 W) => hx.gr (HG3.out.trans k))
 have HK1 := Lh (show ([] : List Int).length + xn ≤ 1000000 by simp; omega)
 have HK2 := Lh (show ([] ++ xv).length + (yn - 1) ≤ 1000000 by have := hx.1; simp; omega)
 have k1 : (1 : Int) ≤ (yn : Int) := by omega
 have k2 : (yn : Int) ≤ (yc : Int) := by have := hy.2.1; omega
 have HB := Lh (And.intro bx by_)
 have HY0 := Lh hy
 clear g1 g2 g3 x1 x2 y1 y2 hl bx by_ hx
 go_enter Tryz.func117, Tryz.ntmps117
 generalize hbx : w.heap.size = b1 at *
 generalize hby : w1.heap.size = b2 at *
 generalize hbz : w2.heap.size = b3 at *
 by_cases hyc : yc = 1
 ·obtain rfl : yn = 1 := by have := hy.2.1; omega
  subst hyc
  have HYV := Lh (fun W (k : Gr w3 W) => show Rd3 W (some ⟨yb, yo, none⟩) (1 - 1) (1 - 1) (yv.drop 1) from ⟨by rw [List.length_drop]; have := HY0.out.1; omega, by omega, by omega, (fun e => by cases e), .inl rfl⟩)
  clear hy hy1
  rcases hh with rfl | rfl
  ·have hyp := hp rfl
   have hd : (1000000000000000 : Int).tdiv yy = 1000000000000000 / yy := Int.tdiv_eq_ediv_of_nonneg (by omega)
   have hy0 : ¬ yy = 0 := by omega
   have hq0 : 0 ≤ (1000000000000000 : Int) / yy := Int.ediv_nonneg (by omega) (by omega)
   have hq1 : (1000000000000000 : Int) / yy ≤ 1000000000000000 := Int.ediv_le_self _ (by omega)
   have HDv := Lh (show ∀ z : Int, z ≤ 1000000000000000 / yy → z * yy ≤ 1000000000000000 from fun z hz => Int.le_trans (Int.mul_le_mul_of_nonneg_right hz (by omega)) (Int.ediv_mul_le _ (by omega)))
   obtain ⟨qd, hqd⟩ : ∃ qd : Int, 1000000000000000 / yy = qd := ⟨_, rfl⟩
   rw [hqd] at hd hq0 hq1 HDv
   have e1 : wrap64 ((1000000000000000 : Int).tdiv yy) = qd := by rw [hd]; exact IntWalk.wrap64_in _ (by omega)
   have e2 : IntKind.i64.wrap ((1000000000000000 : Int).tdiv yy) = qd := by rw [hd]; exact IntWalk.i64_in _ (by omega)
   have e5 : IntKind.i64.wrap qd = qd := IntWalk.i64_in _ (by omega)
   have e6 : wrap64 qd = qd := IntWalk.wrap64_in _ (by omega)
   by_cases hf : xy ≤ qd
   ·have hfd : decide (xy ≤ qd) = true := decide_eq_true hf
    obtain ⟨pr, hpr⟩ : ∃ pr, xy * yy = pr := ⟨_, rfl⟩
    have e3 : wrap64 (xy * yy) = pr := by
     rw [hpr]
     exact IntWalk.wrap64_in _ (by have h1 := HDv.out xy hf; have h2 := Int.mul_nonneg HB.out.1.1 (show 0 ≤ yy by omega); omega)
    have e4 : IntKind.i64.wrap (xy * yy) = pr := by
     rw [hpr]
     exact IntWalk.i64_in _ (by have h1 := HDv.out xy hf; have h2 := Int.mul_nonneg HB.out.1.1 (show 0 ≤ yy by omega); omega)
    have HM := Lh (show mulH 2 (xL, xy) (yL, yy) = ([], pr) by
     unfold mulH
     rw [if_neg (by decide), if_pos rfl]
     show ([], if xy ≤ MX / yy then xy * yy else MX + 1) = _
     rw [if_pos (by show xy ≤ 1000000000000000 / yy; omega), hpr])
    clear hpr HDv hqd hq0 hq1 hyp hf
    as_aux_lemma =>
     go_upto_region 1 with fail
     refine Hg (fun w' => Gr w3 w') 11 ?_
     have hS : Gr w3 w3.drew := (Gr.refl w3).drew
     obtain ⟨wU, hw9⟩ : ∃ W9, w3.drew = W9 := ⟨_, rfl⟩
     rw [hw9] at hS ⊢
     clear hw9
     refine H5 1 2 4 5 6 (c2 x0 y0) hS ?_
     refine Hq [0, 9] ?_
     refine Hc (fun K9 hK => ?_) (Hc (fun K9 hK => ?_) AllHIn.nil)
     ·obtain ⟨wy1, hY⟩ : ∃ W9, wU.alloc (.cells #[] 3) = W9 := ⟨_, rfl⟩
      go_simp
      try rw [hY]
      have gY : Gr wU wy1 := hY ▸ (Gr.refl wU).alloc _
      have H9 := Lh (hY ▸ OwnL.lit0 wU : OwnL wU wy1 (.slice (some ⟨wU.heap.size, 0, none⟩) 0 0) [])
      have HGb := Lh hS
      have hS : Gr w3 wy1 := hS.trans gY
      refine hK.out _ _ hS ?_
      clear hK K9 hY
      refine Hq [3, 9] ?_
      refine Hc (fun K9 hK => ?_) (Hc (fun K9 hK => ?_) AllHIn.nil)
      ·refine wpIn_cat_rd _ _ rfl _ [] xv rfl H9.out _ xn _ rfl (HXV.out _ hS) HK1.out ?_
       intro v3 wy2 h4 g4
       have H9 := Lh h4
       have hS : Gr w3 wy2 := HGb.out.trans h4.2
       clear h4 g4
       refine hK.out _ _ hS ?_
       clear hK K9
       refine Hq [7, 9] ?_
       refine Hc (fun K9 hK => ?_) (Hc (fun K9 hK => ?_) AllHIn.nil)
       ·refine wpIn_cat_rd _ _ rfl _ ([] ++ xv) (yv.drop 1) rfl H9.out _ (1 - 1) _ rfl (HYV.out _ hS) HK2.out ?_
        intro v7 wy3 h4 g4
        obtain ⟨b7, c7, rfl, _, _⟩ := h4.rd
        generalize hn7 : ([] ++ xv ++ yv.drop 1).length = n7 at *
        have H9 := Lh h4
        have hS : Gr w3 wy3 := HGb.out.trans h4.2
        clear h4 g4
        refine hK.out _ _ hS ?_
        clear hK K9
        refine H1 8 tv hS ?_
        refine Hr 9 rfl (fun K9 hK => ?_)
        obtain ⟨wy4, hY⟩ : ∃ W9, wy3.alloc (.cells #[.slice none 0 0, .slice none 0 0, .int .i64 0] 81) = W9 := ⟨_, rfl⟩
        go_simp
        try rw [hY]
        have gY : Gr wy3 wy4 := hY ▸ (Gr.refl wy3).alloc _
        have HBx := Lh (hY ▸ heap_alloc_new wy3 _ : BoxH wy4 wy3.heap.size)
        have HBz := Lh (hS.size : w3.heap.size ≤ wy3.heap.size)
        have H9 := Lh (H9.out.gr gY)
        have hS : Gr w3 wy4 := hS.trans gY
        generalize hbn : wy3.heap.size = bn at *
        clear hbn
        refine hK.out _ _ hS ?_
        clear hK K9 hY
        have H9 := Lh (H9.out.base HGb.out)
        have hne := HBx.out.ne H9.out
        obtain ⟨wE, hwE, gE, sE, n0, n1, n2⟩ := put3w HBx.out.st (.slice b7 n7 c7) (.slice none 0 0) (.int .i64 0)
        obtain ⟨⟨o0, o1, o2, x0, x1, x2⟩, f0, f1, f2⟩ := HBx.out.st
        have HE := Lh (OwnL.far3 H9.out HBz.out hne gE)
        refine Hr 10 rfl (fun K9 hK => ?_)
        go_simp
        try rw [hwE]
        refine hK.out _ _ HE.out.2 ?_
        clear hK K9 hS hwE f0 f1 f2 x0 x1 x2 gE
        refine Hd ?_
        obtain ⟨_, f0, f1, f2⟩ := sE
        obtain ⟨wF, hwF, gF, sF, m0, m1, m2⟩ := put1w ⟨⟨_, _, _, n0, n1, n2⟩, f0, f1, f2⟩ n0 n1 (.int .i64 1000000000000001)
        have HF := Lh (OwnL.far3 HE.out HBz.out hne gF)
        go_upto_region 7 with fail
        try rw [hwF]
        clear hwF n0 n1 n2 f0 f1 f2 gF
        obtain ⟨_, f0, f1, f2⟩ := sF
        have p2 := HF.out.2.cell PX.out
        have q2 := HF.out.2.cell PY.out
        refine Hg (fun w' => Gr wF w') 6 ?_
        have hS : Gr wF wF.drew := (Gr.refl wF).drew
        obtain ⟨wT, hw9⟩ : ∃ W9, wF.drew = W9 := ⟨_, rfl⟩
        rw [hw9] at hS ⊢
        clear hw9
        refine H5 0 1 2 3 4 (c2 p2 q2) hS ?_; refine H1 5 (c2 p2 q2) hS ?_
        refine Hd ?_
        have HT := Lh (HF.out.gr hS)
        have g0 := (Below.frozen hS (World.block_lt_of_cell? _ _ m0)).trans f0
        have g1 := (Below.frozen hS (World.block_lt_of_cell? _ _ m1)).trans f1
        have g2 := (Below.frozen hS (World.block_lt_of_cell? _ _ m2)).trans f2
        replace m0 := hS.cell m0
        replace m1 := hS.cell m1
        replace m2 := hS.cell m2
        have p3 := hS.cell p2
        have q3 := hS.cell q2
        clear hS f0 f1 f2 p2 q2
        obtain ⟨wP, hwP, gP, sP, k0, k1, k2⟩ := put1w ⟨⟨_, _, _, m0, m1, m2⟩, g0, g1, g2⟩ m0 m1 (.int .i64 pr)
        have HP := Lh (OwnL.far3 HT.out HBz.out hne gP)
        clear gP
        obtain ⟨wL, hwL, gL, sL, r0, r1, r2⟩ := put3w (HZ.out.gr HP.out.2) (.slice b7 n7 c7) (.slice none 0 0) (.int .i64 (pr))
        obtain ⟨⟨oz0, oz1, oz2, xz0, xz1, xz2⟩, fz0, fz1, fz2⟩ := HZ.out.gr HP.out.2
        have HOw := Lh (HP.out.base HG3.out)
        have HOf := Lh (OwnL.far3 HOw.out (by rw [hbx]; exact HZb.out.1) (fun e => by have := (HP.out.1.lt _ e).1; have := HZb.out.2; omega) gL)
        go_wp2_with fail
        try rw [hwL]
        refine bodyPost_ret (v := .agg #[.slice b7 n7 c7, .slice none 0 0, .int .i64 (pr)]) (by simp [results, Tryz.results117, go_sem, r0, r1, r2]) rfl ?_
        obtain ⟨a9, c9, e9, hr9, ho9⟩ := HOf.out.rd
        rw [hn7] at e9 hr9 ho9
        cases e9
        rw [HM.out]
        exact ⟨_, _, _, rfl, rfl, HOf.out.2, by have := hr9; simpa using this, OwnL.old HOf.out hn7.symm⟩
       obtain ⟨wy5, hY⟩ : ∃ W9, wy2.alloc (.cells #[.slice none 0 0, .slice none 0 0, .int .i64 0] 81) = W9 := ⟨_, rfl⟩
       go_simp
       try rw [hY]
       have gY : Gr wy2 wy5 := hY ▸ (Gr.refl wy2).alloc _
       have HBx := Lh (hY ▸ heap_alloc_new wy2 _ : BoxH wy5 wy2.heap.size)
       have HBz := Lh (hS.size : w3.heap.size ≤ wy2.heap.size)
       have H9 := Lh (H9.out.gr gY)
       have hS : Gr w3 wy5 := hS.trans gY
       generalize hbn : wy2.heap.size = bn at *
       clear hbn
       refine hK.out _ _ hS ?_
       clear hK K9 hY
       refine Hr 7 rfl (fun K9 hK => ?_)
       refine wpIn_cat_rd _ _ rfl _ ([] ++ xv) (yv.drop 1) rfl H9.out _ (1 - 1) _ rfl (HYV.out _ hS) HK2.out ?_
       intro v7 wy6 h4 g4
       obtain ⟨b7, c7, rfl, _, _⟩ := h4.rd
       generalize hn7 : ([] ++ xv ++ yv.drop 1).length = n7 at *
       have HBx := Lh (HBx.out.grown H9.out g4)
       have H9 := Lh h4
       have hS : Gr w3 wy6 := HGb.out.trans h4.2
       clear h4 g4
       refine hK.out _ _ hS ?_
       clear hK K9
       refine H1 8 tv hS ?_
       have H9 := Lh (H9.out.base HGb.out)
       have hne := HBx.out.ne H9.out
       obtain ⟨wE, hwE, gE, sE, n0, n1, n2⟩ := put3w HBx.out.st (.slice b7 n7 c7) (.slice none 0 0) (.int .i64 0)
       obtain ⟨⟨o0, o1, o2, x0, x1, x2⟩, f0, f1, f2⟩ := HBx.out.st
       have HE := Lh (OwnL.far3 H9.out HBz.out hne gE)
       refine Hr 10 rfl (fun K9 hK => ?_)
       go_simp
       try rw [hwE]
       refine hK.out _ _ HE.out.2 ?_
       clear hK K9 hS hwE f0 f1 f2 x0 x1 x2 gE
       refine Hd ?_
       obtain ⟨_, f0, f1, f2⟩ := sE
       obtain ⟨wF, hwF, gF, sF, m0, m1, m2⟩ := put1w ⟨⟨_, _, _, n0, n1, n2⟩, f0, f1, f2⟩ n0 n1 (.int .i64 1000000000000001)
       have HF := Lh (OwnL.far3 HE.out HBz.out hne gF)
       go_upto_region 7 with fail
       try rw [hwF]
       clear hwF n0 n1 n2 f0 f1 f2 gF
       obtain ⟨_, f0, f1, f2⟩ := sF
       have p2 := HF.out.2.cell PX.out
       have q2 := HF.out.2.cell PY.out
       refine Hg (fun w' => Gr wF w') 6 ?_
       have hS : Gr wF wF.drew := (Gr.refl wF).drew
       obtain ⟨wT, hw9⟩ : ∃ W9, wF.drew = W9 := ⟨_, rfl⟩
       rw [hw9] at hS ⊢
       clear hw9
       refine H5 0 1 2 3 4 (c2 p2 q2) hS ?_; refine H1 5 (c2 p2 q2) hS ?_
       refine Hd ?_
       have HT := Lh (HF.out.gr hS)
       have g0 := (Below.frozen hS (World.block_lt_of_cell? _ _ m0)).trans f0
       have g1 := (Below.frozen hS (World.block_lt_of_cell? _ _ m1)).trans f1
       have g2 := (Below.frozen hS (World.block_lt_of_cell? _ _ m2)).trans f2
       replace m0 := hS.cell m0
       replace m1 := hS.cell m1
       replace m2 := hS.cell m2
       have p3 := hS.cell p2
       have q3 := hS.cell q2
       clear hS f0 f1 f2 p2 q2
       obtain ⟨wP, hwP, gP, sP, k0, k1, k2⟩ := put1w ⟨⟨_, _, _, m0, m1, m2⟩, g0, g1, g2⟩ m0 m1 (.int .i64 pr)
       have HP := Lh (OwnL.far3 HT.out HBz.out hne gP)
       clear gP
       obtain ⟨wL, hwL, gL, sL, r0, r1, r2⟩ := put3w (HZ.out.gr HP.out.2) (.slice b7 n7 c7) (.slice none 0 0) (.int .i64 (pr))
       obtain ⟨⟨oz0, oz1, oz2, xz0, xz1, xz2⟩, fz0, fz1, fz2⟩ := HZ.out.gr HP.out.2
       have HOw := Lh (HP.out.base HG3.out)
       have HOf := Lh (OwnL.far3 HOw.out (by rw [hbx]; exact HZb.out.1) (fun e => by have := (HP.out.1.lt _ e).1; have := HZb.out.2; omega) gL)
       go_wp2_with fail
       try rw [hwL]
       refine bodyPost_ret (v := .agg #[.slice b7 n7 c7, .slice none 0 0, .int .i64 (pr)]) (by simp [results, Tryz.results117, go_sem, r0, r1, r2]) rfl ?_
       obtain ⟨a9, c9, e9, hr9, ho9⟩ := HOf.out.rd
       rw [hn7] at e9 hr9 ho9
       cases e9
       rw [HM.out]
       exact ⟨_, _, _, rfl, rfl, HOf.out.2, by have := hr9; simpa using this, OwnL.old HOf.out hn7.symm⟩
      obtain ⟨wy7, hY⟩ : ∃ W9, wy1.alloc (.cells #[.slice none 0 0, .slice none 0 0, .int .i64 0] 81) = W9 := ⟨_, rfl⟩
      go_simp
      try rw [hY]
      have gY : Gr wy1 wy7 := hY ▸ (Gr.refl wy1).alloc _
      have HBx := Lh (hY ▸ heap_alloc_new wy1 _ : BoxH wy7 wy1.heap.size)
      have HBz := Lh (hS.size : w3.heap.size ≤ wy1.heap.size)
      have H9 := Lh (H9.out.gr gY)
      have hS : Gr w3 wy7 := hS.trans gY
      generalize hbn : wy1.heap.size = bn at *
      clear hbn
      refine hK.out _ _ hS ?_
      clear hK K9 hY
      refine Hr 3 rfl (fun K9 hK => ?_)
      refine wpIn_cat_rd _ _ rfl _ [] xv rfl H9.out _ xn _ rfl (HXV.out _ hS) HK1.out ?_
      intro v3 wy8 h4 g4
      have HBx := Lh (HBx.out.grown H9.out g4)
      have H9 := Lh h4
      have hS : Gr w3 wy8 := HGb.out.trans h4.2
      clear h4 g4
      refine hK.out _ _ hS ?_
      clear hK K9
      refine Hr 7 rfl (fun K9 hK => ?_)
      refine wpIn_cat_rd _ _ rfl _ ([] ++ xv) (yv.drop 1) rfl H9.out _ (1 - 1) _ rfl (HYV.out _ hS) HK2.out ?_
      intro v7 wy9 h4 g4
      obtain ⟨b7, c7, rfl, _, _⟩ := h4.rd
      generalize hn7 : ([] ++ xv ++ yv.drop 1).length = n7 at *
      have HBx := Lh (HBx.out.grown H9.out g4)
      have H9 := Lh h4
      have hS : Gr w3 wy9 := HGb.out.trans h4.2
      clear h4 g4
      refine hK.out _ _ hS ?_
      clear hK K9
      refine H1 8 tv hS ?_
      have H9 := Lh (H9.out.base HGb.out)
      have hne := HBx.out.ne H9.out
      obtain ⟨wE, hwE, gE, sE, n0, n1, n2⟩ := put3w HBx.out.st (.slice b7 n7 c7) (.slice none 0 0) (.int .i64 0)
      obtain ⟨⟨o0, o1, o2, x0, x1, x2⟩, f0, f1, f2⟩ := HBx.out.st
      have HE := Lh (OwnL.far3 H9.out HBz.out hne gE)
      refine Hr 10 rfl (fun K9 hK => ?_)
      go_simp
      try rw [hwE]
      refine hK.out _ _ HE.out.2 ?_
      clear hK K9 hS hwE f0 f1 f2 x0 x1 x2 gE
      refine Hd ?_
      obtain ⟨_, f0, f1, f2⟩ := sE
      obtain ⟨wF, hwF, gF, sF, m0, m1, m2⟩ := put1w ⟨⟨_, _, _, n0, n1, n2⟩, f0, f1, f2⟩ n0 n1 (.int .i64 1000000000000001)
      have HF := Lh (OwnL.far3 HE.out HBz.out hne gF)
      go_upto_region 7 with fail
      try rw [hwF]
      clear hwF n0 n1 n2 f0 f1 f2 gF
      obtain ⟨_, f0, f1, f2⟩ := sF
      have p2 := HF.out.2.cell PX.out
      have q2 := HF.out.2.cell PY.out
      refine Hg (fun w' => Gr wF w') 6 ?_
      have hS : Gr wF wF.drew := (Gr.refl wF).drew
      obtain ⟨wT, hw9⟩ : ∃ W9, wF.drew = W9 := ⟨_, rfl⟩
      rw [hw9] at hS ⊢
      clear hw9
      refine H5 0 1 2 3 4 (c2 p2 q2) hS ?_; refine H1 5 (c2 p2 q2) hS ?_
      refine Hd ?_
      have HT := Lh (HF.out.gr hS)
      have g0 := (Below.frozen hS (World.block_lt_of_cell? _ _ m0)).trans f0
      have g1 := (Below.frozen hS (World.block_lt_of_cell? _ _ m1)).trans f1
      have g2 := (Below.frozen hS (World.block_lt_of_cell? _ _ m2)).trans f2
      replace m0 := hS.cell m0
      replace m1 := hS.cell m1
      replace m2 := hS.cell m2
      have p3 := hS.cell p2
      have q3 := hS.cell q2
      clear hS f0 f1 f2 p2 q2
      obtain ⟨wP, hwP, gP, sP, k0, k1, k2⟩ := put1w ⟨⟨_, _, _, m0, m1, m2⟩, g0, g1, g2⟩ m0 m1 (.int .i64 pr)
      have HP := Lh (OwnL.far3 HT.out HBz.out hne gP)
      clear gP
      obtain ⟨wL, hwL, gL, sL, r0, r1, r2⟩ := put3w (HZ.out.gr HP.out.2) (.slice b7 n7 c7) (.slice none 0 0) (.int .i64 (pr))
      obtain ⟨⟨oz0, oz1, oz2, xz0, xz1, xz2⟩, fz0, fz1, fz2⟩ := HZ.out.gr HP.out.2
      have HOw := Lh (HP.out.base HG3.out)
      have HOf := Lh (OwnL.far3 HOw.out (by rw [hbx]; exact HZb.out.1) (fun e => by have := (HP.out.1.lt _ e).1; have := HZb.out.2; omega) gL)
      go_wp2_with fail
      try rw [hwL]
      refine bodyPost_ret (v := .agg #[.slice b7 n7 c7, .slice none 0 0, .int .i64 (pr)]) (by simp [results, Tryz.results117, go_sem, r0, r1, r2]) rfl ?_
      obtain ⟨a9, c9, e9, hr9, ho9⟩ := HOf.out.rd
      rw [hn7] at e9 hr9 ho9
      cases e9
      rw [HM.out]
      exact ⟨_, _, _, rfl, rfl, HOf.out.2, by have := hr9; simpa using this, OwnL.old HOf.out hn7.symm⟩
     obtain ⟨wy10, hY⟩ : ∃ W9, wU.alloc (.cells #[.slice none 0 0, .slice none 0 0, .int .i64 0] 81) = W9 := ⟨_, rfl⟩
     go_simp
     try rw [hY]
     have gY : Gr wU wy10 := hY ▸ (Gr.refl wU).alloc _
     have HBx := Lh (hY ▸ heap_alloc_new wU _ : BoxH wy10 wU.heap.size)
     have HBz := Lh (hS.size : w3.heap.size ≤ wU.heap.size)
     have hS : Gr w3 wy10 := hS.trans gY
     generalize hbn : wU.heap.size = bn at *
     clear hbn
     refine hK.out _ _ hS ?_
     clear hK K9 hY
     refine Hr 0 rfl (fun K9 hK => ?_)
     obtain ⟨wy11, hY⟩ : ∃ W9, wy10.alloc (.cells #[] 3) = W9 := ⟨_, rfl⟩
     go_simp
     try rw [hY]
     have gY : Gr wy10 wy11 := hY ▸ (Gr.refl wy10).alloc _
     have H9 := Lh (hY ▸ OwnL.lit0 wy10 : OwnL wy10 wy11 (.slice (some ⟨wy10.heap.size, 0, none⟩) 0 0) [])
     have HGb := Lh hS
     have HBx := Lh (HBx.out.gr gY)
     have hS : Gr w3 wy11 := hS.trans gY
     refine hK.out _ _ hS ?_
     clear hK K9 hY
     refine Hr 3 rfl (fun K9 hK => ?_)
     refine wpIn_cat_rd _ _ rfl _ [] xv rfl H9.out _ xn _ rfl (HXV.out _ hS) HK1.out ?_
     intro v3 wy12 h4 g4
     have HBx := Lh (HBx.out.grown H9.out g4)
     have H9 := Lh h4
     have hS : Gr w3 wy12 := HGb.out.trans h4.2
     clear h4 g4
     refine hK.out _ _ hS ?_
     clear hK K9
     refine Hr 7 rfl (fun K9 hK => ?_)
     refine wpIn_cat_rd _ _ rfl _ ([] ++ xv) (yv.drop 1) rfl H9.out _ (1 - 1) _ rfl (HYV.out _ hS) HK2.out ?_
     intro v7 wy13 h4 g4
     obtain ⟨b7, c7, rfl, _, _⟩ := h4.rd
     generalize hn7 : ([] ++ xv ++ yv.drop 1).length = n7 at *
     have HBx := Lh (HBx.out.grown H9.out g4)
     have H9 := Lh h4
     have hS : Gr w3 wy13 := HGb.out.trans h4.2
     clear h4 g4
     refine hK.out _ _ hS ?_
     clear hK K9
     refine H1 8 tv hS ?_
     have H9 := Lh (H9.out.base HGb.out)
     have hne := HBx.out.ne H9.out
     obtain ⟨wE, hwE, gE, sE, n0, n1, n2⟩ := put3w HBx.out.st (.slice b7 n7 c7) (.slice none 0 0) (.int .i64 0)
     obtain ⟨⟨o0, o1, o2, x0, x1, x2⟩, f0, f1, f2⟩ := HBx.out.st
     have HE := Lh (OwnL.far3 H9.out HBz.out hne gE)
     refine Hr 10 rfl (fun K9 hK => ?_)
     go_simp
     try rw [hwE]
     refine hK.out _ _ HE.out.2 ?_
     clear hK K9 hS hwE f0 f1 f2 x0 x1 x2 gE
     refine Hd ?_
     obtain ⟨_, f0, f1, f2⟩ := sE
     obtain ⟨wF, hwF, gF, sF, m0, m1, m2⟩ := put1w ⟨⟨_, _, _, n0, n1, n2⟩, f0, f1, f2⟩ n0 n1 (.int .i64 1000000000000001)
     have HF := Lh (OwnL.far3 HE.out HBz.out hne gF)
     go_upto_region 7 with fail
     try rw [hwF]
     clear hwF n0 n1 n2 f0 f1 f2 gF
     obtain ⟨_, f0, f1, f2⟩ := sF
     have p2 := HF.out.2.cell PX.out
     have q2 := HF.out.2.cell PY.out
     refine Hg (fun w' => Gr wF w') 6 ?_
     have hS : Gr wF wF.drew := (Gr.refl wF).drew
     obtain ⟨wT, hw9⟩ : ∃ W9, wF.drew = W9 := ⟨_, rfl⟩
     rw [hw9] at hS ⊢
     clear hw9
     refine H5 0 1 2 3 4 (c2 p2 q2) hS ?_; refine H1 5 (c2 p2 q2) hS ?_
     refine Hd ?_
     have HT := Lh (HF.out.gr hS)
     have g0 := (Below.frozen hS (World.block_lt_of_cell? _ _ m0)).trans f0
     have g1 := (Below.frozen hS (World.block_lt_of_cell? _ _ m1)).trans f1
     have g2 := (Below.frozen hS (World.block_lt_of_cell? _ _ m2)).trans f2
     replace m0 := hS.cell m0
     replace m1 := hS.cell m1
     replace m2 := hS.cell m2
     have p3 := hS.cell p2
     have q3 := hS.cell q2
     clear hS f0 f1 f2 p2 q2
     obtain ⟨wP, hwP, gP, sP, k0, k1, k2⟩ := put1w ⟨⟨_, _, _, m0, m1, m2⟩, g0, g1, g2⟩ m0 m1 (.int .i64 pr)
     have HP := Lh (OwnL.far3 HT.out HBz.out hne gP)
     clear gP
     obtain ⟨wL, hwL, gL, sL, r0, r1, r2⟩ := put3w (HZ.out.gr HP.out.2) (.slice b7 n7 c7) (.slice none 0 0) (.int .i64 (pr))
     obtain ⟨⟨oz0, oz1, oz2, xz0, xz1, xz2⟩, fz0, fz1, fz2⟩ := HZ.out.gr HP.out.2
     have HOw := Lh (HP.out.base HG3.out)
     have HOf := Lh (OwnL.far3 HOw.out (by rw [hbx]; exact HZb.out.1) (fun e => by have := (HP.out.1.lt _ e).1; have := HZb.out.2; omega) gL)
     go_wp2_with fail
     try rw [hwL]
     refine bodyPost_ret (v := .agg #[.slice b7 n7 c7, .slice none 0 0, .int .i64 (pr)]) (by simp [results, Tryz.results117, go_sem, r0, r1, r2]) rfl ?_
     obtain ⟨a9, c9, e9, hr9, ho9⟩ := HOf.out.rd
     rw [hn7] at e9 hr9 ho9
     cases e9
     rw [HM.out]
     exact ⟨_, _, _, rfl, rfl, HOf.out.2, by have := hr9; simpa using this, OwnL.old HOf.out hn7.symm⟩
   have hfd : decide (xy ≤ qd) = false := decide_eq_false hf
   have HM := Lh (show mulH 2 (xL, xy) (yL, yy) = ([], 1000000000000001) by
    unfold mulH
    rw [if_neg (by decide), if_pos rfl]
    show ([], if xy ≤ MX / yy then xy * yy else MX + 1) = _
    rw [if_neg (by show ¬ xy ≤ 1000000000000000 / yy; omega)]
    rfl)
   clear HDv hqd hq0 hq1 hyp hf
   as_aux_lemma =>
    go_upto_region 1 with fail
    refine Hg (fun w' => Gr w3 w') 11 ?_
    have hS : Gr w3 w3.drew := (Gr.refl w3).drew
    obtain ⟨wU, hw9⟩ : ∃ W9, w3.drew = W9 := ⟨_, rfl⟩
    rw [hw9] at hS ⊢
    clear hw9
    refine H5 1 2 4 5 6 (c2 x0 y0) hS ?_
    refine Hq [0, 9] ?_
    refine Hc (fun K9 hK => ?_) (Hc (fun K9 hK => ?_) AllHIn.nil)
    ·obtain ⟨wy1, hY⟩ : ∃ W9, wU.alloc (.cells #[] 3) = W9 := ⟨_, rfl⟩
     go_simp
     try rw [hY]
     have gY : Gr wU wy1 := hY ▸ (Gr.refl wU).alloc _
     have H9 := Lh (hY ▸ OwnL.lit0 wU : OwnL wU wy1 (.slice (some ⟨wU.heap.size, 0, none⟩) 0 0) [])
     have HGb := Lh hS
     have hS : Gr w3 wy1 := hS.trans gY
     refine hK.out _ _ hS ?_
     clear hK K9 hY
     refine Hq [3, 9] ?_
     refine Hc (fun K9 hK => ?_) (Hc (fun K9 hK => ?_) AllHIn.nil)
     ·refine wpIn_cat_rd _ _ rfl _ [] xv rfl H9.out _ xn _ rfl (HXV.out _ hS) HK1.out ?_
      intro v3 wy2 h4 g4
      have H9 := Lh h4
      have hS : Gr w3 wy2 := HGb.out.trans h4.2
      clear h4 g4
      refine hK.out _ _ hS ?_
      clear hK K9
      refine Hq [7, 9] ?_
      refine Hc (fun K9 hK => ?_) (Hc (fun K9 hK => ?_) AllHIn.nil)
      ·refine wpIn_cat_rd _ _ rfl _ ([] ++ xv) (yv.drop 1) rfl H9.out _ (1 - 1) _ rfl (HYV.out _ hS) HK2.out ?_
       intro v7 wy3 h4 g4
       obtain ⟨b7, c7, rfl, _, _⟩ := h4.rd
       generalize hn7 : ([] ++ xv ++ yv.drop 1).length = n7 at *
       have H9 := Lh h4
       have hS : Gr w3 wy3 := HGb.out.trans h4.2
       clear h4 g4
       refine hK.out _ _ hS ?_
       clear hK K9
       refine H1 8 tv hS ?_
       refine Hr 9 rfl (fun K9 hK => ?_)
       obtain ⟨wy4, hY⟩ : ∃ W9, wy3.alloc (.cells #[.slice none 0 0, .slice none 0 0, .int .i64 0] 81) = W9 := ⟨_, rfl⟩
       go_simp
       try rw [hY]
       have gY : Gr wy3 wy4 := hY ▸ (Gr.refl wy3).alloc _
       have HBx := Lh (hY ▸ heap_alloc_new wy3 _ : BoxH wy4 wy3.heap.size)
       have HBz := Lh (hS.size : w3.heap.size ≤ wy3.heap.size)
       have H9 := Lh (H9.out.gr gY)
       have hS : Gr w3 wy4 := hS.trans gY
       generalize hbn : wy3.heap.size = bn at *
       clear hbn
       refine hK.out _ _ hS ?_
       clear hK K9 hY
       have H9 := Lh (H9.out.base HGb.out)
       have hne := HBx.out.ne H9.out
       obtain ⟨wE, hwE, gE, sE, n0, n1, n2⟩ := put3w HBx.out.st (.slice b7 n7 c7) (.slice none 0 0) (.int .i64 0)
       obtain ⟨⟨o0, o1, o2, x0, x1, x2⟩, f0, f1, f2⟩ := HBx.out.st
       have HE := Lh (OwnL.far3 H9.out HBz.out hne gE)
       refine Hr 10 rfl (fun K9 hK => ?_)
       go_simp
       try rw [hwE]
       refine hK.out _ _ HE.out.2 ?_
       clear hK K9 hS hwE f0 f1 f2 x0 x1 x2 gE
       refine Hd ?_
       obtain ⟨_, f0, f1, f2⟩ := sE
       obtain ⟨wF, hwF, gF, sF, m0, m1, m2⟩ := put1w ⟨⟨_, _, _, n0, n1, n2⟩, f0, f1, f2⟩ n0 n1 (.int .i64 1000000000000001)
       have HF := Lh (OwnL.far3 HE.out HBz.out hne gF)
       go_upto_region 7 with fail
       try rw [hwF]
       clear hwF n0 n1 n2 f0 f1 f2 gF
       obtain ⟨_, f0, f1, f2⟩ := sF
       have p2 := HF.out.2.cell PX.out
       have q2 := HF.out.2.cell PY.out
       refine Hg (fun w' => Gr wF w') 6 ?_
       have hS : Gr wF wF.drew := (Gr.refl wF).drew
       obtain ⟨wT, hw9⟩ : ∃ W9, wF.drew = W9 := ⟨_, rfl⟩
       rw [hw9] at hS ⊢
       clear hw9
       refine H5 0 1 2 3 4 (c2 p2 q2) hS ?_; refine H1 5 (c2 p2 q2) hS ?_
       refine Hd ?_
       have HT := Lh (HF.out.gr hS)
       have g0 := (Below.frozen hS (World.block_lt_of_cell? _ _ m0)).trans f0
       have g1 := (Below.frozen hS (World.block_lt_of_cell? _ _ m1)).trans f1
       have g2 := (Below.frozen hS (World.block_lt_of_cell? _ _ m2)).trans f2
       replace m0 := hS.cell m0
       replace m1 := hS.cell m1
       replace m2 := hS.cell m2
       have p3 := hS.cell p2
       have q3 := hS.cell q2
       clear hS f0 f1 f2 p2 q2
       obtain ⟨wL, hwL, gL, sL, r0, r1, r2⟩ := put3w (HZ.out.gr HT.out.2) (.slice b7 n7 c7) (.slice none 0 0) (.int .i64 (1000000000000001))
       obtain ⟨⟨oz0, oz1, oz2, xz0, xz1, xz2⟩, fz0, fz1, fz2⟩ := HZ.out.gr HT.out.2
       have HOw := Lh (HT.out.base HG3.out)
       have HOf := Lh (OwnL.far3 HOw.out (by rw [hbx]; exact HZb.out.1) (fun e => by have := (HT.out.1.lt _ e).1; have := HZb.out.2; omega) gL)
       go_wp2_with fail
       try rw [hwL]
       refine bodyPost_ret (v := .agg #[.slice b7 n7 c7, .slice none 0 0, .int .i64 (1000000000000001)]) (by simp [results, Tryz.results117, go_sem, r0, r1, r2]) rfl ?_
       obtain ⟨a9, c9, e9, hr9, ho9⟩ := HOf.out.rd
       rw [hn7] at e9 hr9 ho9
       cases e9
       rw [HM.out]
       exact ⟨_, _, _, rfl, rfl, HOf.out.2, by have := hr9; simpa using this, OwnL.old HOf.out hn7.symm⟩
      obtain ⟨wy5, hY⟩ : ∃ W9, wy2.alloc (.cells #[.slice none 0 0, .slice none 0 0, .int .i64 0] 81) = W9 := ⟨_, rfl⟩
      go_simp
      try rw [hY]
      have gY : Gr wy2 wy5 := hY ▸ (Gr.refl wy2).alloc _
      have HBx := Lh (hY ▸ heap_alloc_new wy2 _ : BoxH wy5 wy2.heap.size)
      have HBz := Lh (hS.size : w3.heap.size ≤ wy2.heap.size)
      have H9 := Lh (H9.out.gr gY)
      have hS : Gr w3 wy5 := hS.trans gY
      generalize hbn : wy2.heap.size = bn at *
      clear hbn
      refine hK.out _ _ hS ?_
      clear hK K9 hY
      refine Hr 7 rfl (fun K9 hK => ?_)
      refine wpIn_cat_rd _ _ rfl _ ([] ++ xv) (yv.drop 1) rfl H9.out _ (1 - 1) _ rfl (HYV.out _ hS) HK2.out ?_
      intro v7 wy6 h4 g4
      obtain ⟨b7, c7, rfl, _, _⟩ := h4.rd
      generalize hn7 : ([] ++ xv ++ yv.drop 1).length = n7 at *
      have HBx := Lh (HBx.out.grown H9.out g4)
      have H9 := Lh h4
      have hS : Gr w3 wy6 := HGb.out.trans h4.2
      clear h4 g4
      refine hK.out _ _ hS ?_
      clear hK K9
      refine H1 8 tv hS ?_
      have H9 := Lh (H9.out.base HGb.out)
      have hne := HBx.out.ne H9.out
      obtain ⟨wE, hwE, gE, sE, n0, n1, n2⟩ := put3w HBx.out.st (.slice b7 n7 c7) (.slice none 0 0) (.int .i64 0)
      obtain ⟨⟨o0, o1, o2, x0, x1, x2⟩, f0, f1, f2⟩ := HBx.out.st
      have HE := Lh (OwnL.far3 H9.out HBz.out hne gE)
      refine Hr 10 rfl (fun K9 hK => ?_)
      go_simp
      try rw [hwE]
      refine hK.out _ _ HE.out.2 ?_
      clear hK K9 hS hwE f0 f1 f2 x0 x1 x2 gE
      refine Hd ?_
      obtain ⟨_, f0, f1, f2⟩ := sE
      obtain ⟨wF, hwF, gF, sF, m0, m1, m2⟩ := put1w ⟨⟨_, _, _, n0, n1, n2⟩, f0, f1, f2⟩ n0 n1 (.int .i64 1000000000000001)
      have HF := Lh (OwnL.far3 HE.out HBz.out hne gF)
      go_upto_region 7 with fail
      try rw [hwF]
      clear hwF n0 n1 n2 f0 f1 f2 gF
      obtain ⟨_, f0, f1, f2⟩ := sF
      have p2 := HF.out.2.cell PX.out
      have q2 := HF.out.2.cell PY.out
      refine Hg (fun w' => Gr wF w') 6 ?_
      have hS : Gr wF wF.drew := (Gr.refl wF).drew
      obtain ⟨wT, hw9⟩ : ∃ W9, wF.drew = W9 := ⟨_, rfl⟩
      rw [hw9] at hS ⊢
      clear hw9
      refine H5 0 1 2 3 4 (c2 p2 q2) hS ?_; refine H1 5 (c2 p2 q2) hS ?_
      refine Hd ?_
      have HT := Lh (HF.out.gr hS)
      have g0 := (Below.frozen hS (World.block_lt_of_cell? _ _ m0)).trans f0
      have g1 := (Below.frozen hS (World.block_lt_of_cell? _ _ m1)).trans f1
      have g2 := (Below.frozen hS (World.block_lt_of_cell? _ _ m2)).trans f2
      replace m0 := hS.cell m0
      replace m1 := hS.cell m1
      replace m2 := hS.cell m2
      have p3 := hS.cell p2
      have q3 := hS.cell q2
      clear hS f0 f1 f2 p2 q2
      obtain ⟨wL, hwL, gL, sL, r0, r1, r2⟩ := put3w (HZ.out.gr HT.out.2) (.slice b7 n7 c7) (.slice none 0 0) (.int .i64 (1000000000000001))
      obtain ⟨⟨oz0, oz1, oz2, xz0, xz1, xz2⟩, fz0, fz1, fz2⟩ := HZ.out.gr HT.out.2
      have HOw := Lh (HT.out.base HG3.out)
      have HOf := Lh (OwnL.far3 HOw.out (by rw [hbx]; exact HZb.out.1) (fun e => by have := (HT.out.1.lt _ e).1; have := HZb.out.2; omega) gL)
      go_wp2_with fail
      try rw [hwL]
      refine bodyPost_ret (v := .agg #[.slice b7 n7 c7, .slice none 0 0, .int .i64 (1000000000000001)]) (by simp [results, Tryz.results117, go_sem, r0, r1, r2]) rfl ?_
      obtain ⟨a9, c9, e9, hr9, ho9⟩ := HOf.out.rd
      rw [hn7] at e9 hr9 ho9
      cases e9
      rw [HM.out]
      exact ⟨_, _, _, rfl, rfl, HOf.out.2, by have := hr9; simpa using this, OwnL.old HOf.out hn7.symm⟩
     obtain ⟨wy7, hY⟩ : ∃ W9, wy1.alloc (.cells #[.slice none 0 0, .slice none 0 0, .int .i64 0] 81) = W9 := ⟨_, rfl⟩
     go_simp
     try rw [hY]
     have gY : Gr wy1 wy7 := hY ▸ (Gr.refl wy1).alloc _
     have HBx := Lh (hY ▸ heap_alloc_new wy1 _ : BoxH wy7 wy1.heap.size)
     have HBz := Lh (hS.size : w3.heap.size ≤ wy1.heap.size)
     have H9 := Lh (H9.out.gr gY)
     have hS : Gr w3 wy7 := hS.trans gY
     generalize hbn : wy1.heap.size = bn at *
     clear hbn
     refine hK.out _ _ hS ?_
     clear hK K9 hY
     refine Hr 3 rfl (fun K9 hK => ?_)
     refine wpIn_cat_rd _ _ rfl _ [] xv rfl H9.out _ xn _ rfl (HXV.out _ hS) HK1.out ?_
     intro v3 wy8 h4 g4
     have HBx := Lh (HBx.out.grown H9.out g4)
     have H9 := Lh h4
     have hS : Gr w3 wy8 := HGb.out.trans h4.2
     clear h4 g4
     refine hK.out _ _ hS ?_
     clear hK K9
     refine Hr 7 rfl (fun K9 hK => ?_)
     refine wpIn_cat_rd _ _ rfl _ ([] ++ xv) (yv.drop 1) rfl H9.out _ (1 - 1) _ rfl (HYV.out _ hS) HK2.out ?_
     intro v7 wy9 h4 g4
     obtain ⟨b7, c7, rfl, _, _⟩ := h4.rd
     generalize hn7 : ([] ++ xv ++ yv.drop 1).length = n7 at *
     have HBx := Lh (HBx.out.grown H9.out g4)
     have H9 := Lh h4
     have hS : Gr w3 wy9 := HGb.out.trans h4.2
     clear h4 g4
     refine hK.out _ _ hS ?_
     clear hK K9
     refine H1 8 tv hS ?_
     have H9 := Lh (H9.out.base HGb.out)
     have hne := HBx.out.ne H9.out
     obtain ⟨wE, hwE, gE, sE, n0, n1, n2⟩ := put3w HBx.out.st (.slice b7 n7 c7) (.slice none 0 0) (.int .i64 0)
     obtain ⟨⟨o0, o1, o2, x0, x1, x2⟩, f0, f1, f2⟩ := HBx.out.st
     have HE := Lh (OwnL.far3 H9.out HBz.out hne gE)
     refine Hr 10 rfl (fun K9 hK => ?_)
     go_simp
     try rw [hwE]
     refine hK.out _ _ HE.out.2 ?_
     clear hK K9 hS hwE f0 f1 f2 x0 x1 x2 gE
     refine Hd ?_
     obtain ⟨_, f0, f1, f2⟩ := sE
     obtain ⟨wF, hwF, gF, sF, m0, m1, m2⟩ := put1w ⟨⟨_, _, _, n0, n1, n2⟩, f0, f1, f2⟩ n0 n1 (.int .i64 1000000000000001)
     have HF := Lh (OwnL.far3 HE.out HBz.out hne gF)
     go_upto_region 7 with fail
     try rw [hwF]
     clear hwF n0 n1 n2 f0 f1 f2 gF
     obtain ⟨_, f0, f1, f2⟩ := sF
     have p2 := HF.out.2.cell PX.out
     have q2 := HF.out.2.cell PY.out
     refine Hg (fun w' => Gr wF w') 6 ?_
     have hS : Gr wF wF.drew := (Gr.refl wF).drew
     obtain ⟨wT, hw9⟩ : ∃ W9, wF.drew = W9 := ⟨_, rfl⟩
     rw [hw9] at hS ⊢
     clear hw9
     refine H5 0 1 2 3 4 (c2 p2 q2) hS ?_; refine H1 5 (c2 p2 q2) hS ?_
     refine Hd ?_
     have HT := Lh (HF.out.gr hS)
     have g0 := (Below.frozen hS (World.block_lt_of_cell? _ _ m0)).trans f0
     have g1 := (Below.frozen hS (World.block_lt_of_cell? _ _ m1)).trans f1
     have g2 := (Below.frozen hS (World.block_lt_of_cell? _ _ m2)).trans f2
     replace m0 := hS.cell m0
     replace m1 := hS.cell m1
     replace m2 := hS.cell m2
     have p3 := hS.cell p2
     have q3 := hS.cell q2
     clear hS f0 f1 f2 p2 q2
     obtain ⟨wL, hwL, gL, sL, r0, r1, r2⟩ := put3w (HZ.out.gr HT.out.2) (.slice b7 n7 c7) (.slice none 0 0) (.int .i64 (1000000000000001))
     obtain ⟨⟨oz0, oz1, oz2, xz0, xz1, xz2⟩, fz0, fz1, fz2⟩ := HZ.out.gr HT.out.2
     have HOw := Lh (HT.out.base HG3.out)
     have HOf := Lh (OwnL.far3 HOw.out (by rw [hbx]; exact HZb.out.1) (fun e => by have := (HT.out.1.lt _ e).1; have := HZb.out.2; omega) gL)
     go_wp2_with fail
     try rw [hwL]
     refine bodyPost_ret (v := .agg #[.slice b7 n7 c7, .slice none 0 0, .int .i64 (1000000000000001)]) (by simp [results, Tryz.results117, go_sem, r0, r1, r2]) rfl ?_
     obtain ⟨a9, c9, e9, hr9, ho9⟩ := HOf.out.rd
     rw [hn7] at e9 hr9 ho9
     cases e9
     rw [HM.out]
     exact ⟨_, _, _, rfl, rfl, HOf.out.2, by have := hr9; simpa using this, OwnL.old HOf.out hn7.symm⟩
    obtain ⟨wy10, hY⟩ : ∃ W9, wU.alloc (.cells #[.slice none 0 0, .slice none 0 0, .int .i64 0] 81) = W9 := ⟨_, rfl⟩
    go_simp
    try rw [hY]
    have gY : Gr wU wy10 := hY ▸ (Gr.refl wU).alloc _
    have HBx := Lh (hY ▸ heap_alloc_new wU _ : BoxH wy10 wU.heap.size)
    have HBz := Lh (hS.size : w3.heap.size ≤ wU.heap.size)
    have hS : Gr w3 wy10 := hS.trans gY
    generalize hbn : wU.heap.size = bn at *
    clear hbn
    refine hK.out _ _ hS ?_
    clear hK K9 hY
    refine Hr 0 rfl (fun K9 hK => ?_)
    obtain ⟨wy11, hY⟩ : ∃ W9, wy10.alloc (.cells #[] 3) = W9 := ⟨_, rfl⟩
    go_simp
    try rw [hY]
    have gY : Gr wy10 wy11 := hY ▸ (Gr.refl wy10).alloc _
    have H9 := Lh (hY ▸ OwnL.lit0 wy10 : OwnL wy10 wy11 (.slice (some ⟨wy10.heap.size, 0, none⟩) 0 0) [])
    have HGb := Lh hS
    have HBx := Lh (HBx.out.gr gY)
    have hS : Gr w3 wy11 := hS.trans gY
    refine hK.out _ _ hS ?_
    clear hK K9 hY
    refine Hr 3 rfl (fun K9 hK => ?_)
    refine wpIn_cat_rd _ _ rfl _ [] xv rfl H9.out _ xn _ rfl (HXV.out _ hS) HK1.out ?_
    intro v3 wy12 h4 g4
    have HBx := Lh (HBx.out.grown H9.out g4)
    have H9 := Lh h4
    have hS : Gr w3 wy12 := HGb.out.trans h4.2
    clear h4 g4
    refine hK.out _ _ hS ?_
    clear hK K9
    refine Hr 7 rfl (fun K9 hK => ?_)
    refine wpIn_cat_rd _ _ rfl _ ([] ++ xv) (yv.drop 1) rfl H9.out _ (1 - 1) _ rfl (HYV.out _ hS) HK2.out ?_
    intro v7 wy13 h4 g4
    obtain ⟨b7, c7, rfl, _, _⟩ := h4.rd
    generalize hn7 : ([] ++ xv ++ yv.drop 1).length = n7 at *
    have HBx := Lh (HBx.out.grown H9.out g4)
    have H9 := Lh h4
    have hS : Gr w3 wy13 := HGb.out.trans h4.2
    clear h4 g4
    refine hK.out _ _ hS ?_
    clear hK K9
    refine H1 8 tv hS ?_
    have H9 := Lh (H9.out.base HGb.out)
    have hne := HBx.out.ne H9.out
    obtain ⟨wE, hwE, gE, sE, n0, n1, n2⟩ := put3w HBx.out.st (.slice b7 n7 c7) (.slice none 0 0) (.int .i64 0)
    obtain ⟨⟨o0, o1, o2, x0, x1, x2⟩, f0, f1, f2⟩ := HBx.out.st
    have HE := Lh (OwnL.far3 H9.out HBz.out hne gE)
    refine Hr 10 rfl (fun K9 hK => ?_)
    go_simp
    try rw [hwE]
    refine hK.out _ _ HE.out.2 ?_
    clear hK K9 hS hwE f0 f1 f2 x0 x1 x2 gE
    refine Hd ?_
    obtain ⟨_, f0, f1, f2⟩ := sE
    obtain ⟨wF, hwF, gF, sF, m0, m1, m2⟩ := put1w ⟨⟨_, _, _, n0, n1, n2⟩, f0, f1, f2⟩ n0 n1 (.int .i64 1000000000000001)
    have HF := Lh (OwnL.far3 HE.out HBz.out hne gF)
    go_upto_region 7 with fail
    try rw [hwF]
    clear hwF n0 n1 n2 f0 f1 f2 gF
    obtain ⟨_, f0, f1, f2⟩ := sF
    have p2 := HF.out.2.cell PX.out
    have q2 := HF.out.2.cell PY.out
    refine Hg (fun w' => Gr wF w') 6 ?_
    have hS : Gr wF wF.drew := (Gr.refl wF).drew
    obtain ⟨wT, hw9⟩ : ∃ W9, wF.drew = W9 := ⟨_, rfl⟩
    rw [hw9] at hS ⊢
    clear hw9
    refine H5 0 1 2 3 4 (c2 p2 q2) hS ?_; refine H1 5 (c2 p2 q2) hS ?_
    refine Hd ?_
    have HT := Lh (HF.out.gr hS)
    have g0 := (Below.frozen hS (World.block_lt_of_cell? _ _ m0)).trans f0
    have g1 := (Below.frozen hS (World.block_lt_of_cell? _ _ m1)).trans f1
    have g2 := (Below.frozen hS (World.block_lt_of_cell? _ _ m2)).trans f2
    replace m0 := hS.cell m0
    replace m1 := hS.cell m1
    replace m2 := hS.cell m2
    have p3 := hS.cell p2
    have q3 := hS.cell q2
    clear hS f0 f1 f2 p2 q2
    obtain ⟨wL, hwL, gL, sL, r0, r1, r2⟩ := put3w (HZ.out.gr HT.out.2) (.slice b7 n7 c7) (.slice none 0 0) (.int .i64 (1000000000000001))
    obtain ⟨⟨oz0, oz1, oz2, xz0, xz1, xz2⟩, fz0, fz1, fz2⟩ := HZ.out.gr HT.out.2
    have HOw := Lh (HT.out.base HG3.out)
    have HOf := Lh (OwnL.far3 HOw.out (by rw [hbx]; exact HZb.out.1) (fun e => by have := (HT.out.1.lt _ e).1; have := HZb.out.2; omega) gL)
    go_wp2_with fail
    try rw [hwL]
    refine bodyPost_ret (v := .agg #[.slice b7 n7 c7, .slice none 0 0, .int .i64 (1000000000000001)]) (by simp [results, Tryz.results117, go_sem, r0, r1, r2]) rfl ?_
    obtain ⟨a9, c9, e9, hr9, ho9⟩ := HOf.out.rd
    rw [hn7] at e9 hr9 ho9
    cases e9
    rw [HM.out]
    exact ⟨_, _, _, rfl, rfl, HOf.out.2, by have := hr9; simpa using this, OwnL.old HOf.out hn7.symm⟩
  obtain ⟨pr, hpr⟩ : ∃ pr, xy + yy = pr := ⟨_, rfl⟩
  have e3 : wrap64 (xy + yy) = pr := (IntWalk.wrap64_in _ (by have := HB.out; omega)).trans hpr
  have e4 : IntKind.i64.wrap (xy + yy) = pr := (IntWalk.i64_in _ (by have := HB.out; omega)).trans hpr
  have HM := Lh (show mulH 3 (xL, xy) (yL, yy) = ([], pr) by
   unfold mulH
   rw [if_neg (by decide), if_neg (by decide), ← hpr])
  clear hpr
  as_aux_lemma =>
   go_upto_region 1 with fail
   refine Hg (fun w' => Gr w3 w') 11 ?_
   have hS : Gr w3 w3.drew := (Gr.refl w3).drew
   obtain ⟨wU, hw9⟩ : ∃ W9, w3.drew = W9 := ⟨_, rfl⟩
   rw [hw9] at hS ⊢
   clear hw9
   refine H5 1 2 4 5 6 (c2 x0 y0) hS ?_
   refine Hq [0, 9] ?_
   refine Hc (fun K9 hK => ?_) (Hc (fun K9 hK => ?_) AllHIn.nil)
   ·obtain ⟨wy1, hY⟩ : ∃ W9, wU.alloc (.cells #[] 3) = W9 := ⟨_, rfl⟩
    go_simp
    try rw [hY]
    have gY : Gr wU wy1 := hY ▸ (Gr.refl wU).alloc _
    have H9 := Lh (hY ▸ OwnL.lit0 wU : OwnL wU wy1 (.slice (some ⟨wU.heap.size, 0, none⟩) 0 0) [])
    have HGb := Lh hS
    have hS : Gr w3 wy1 := hS.trans gY
    refine hK.out _ _ hS ?_
    clear hK K9 hY
    refine Hq [3, 9] ?_
    refine Hc (fun K9 hK => ?_) (Hc (fun K9 hK => ?_) AllHIn.nil)
    ·refine wpIn_cat_rd _ _ rfl _ [] xv rfl H9.out _ xn _ rfl (HXV.out _ hS) HK1.out ?_
     intro v3 wy2 h4 g4
     have H9 := Lh h4
     have hS : Gr w3 wy2 := HGb.out.trans h4.2
     clear h4 g4
     refine hK.out _ _ hS ?_
     clear hK K9
     refine Hq [7, 9] ?_
     refine Hc (fun K9 hK => ?_) (Hc (fun K9 hK => ?_) AllHIn.nil)
     ·refine wpIn_cat_rd _ _ rfl _ ([] ++ xv) (yv.drop 1) rfl H9.out _ (1 - 1) _ rfl (HYV.out _ hS) HK2.out ?_
      intro v7 wy3 h4 g4
      obtain ⟨b7, c7, rfl, _, _⟩ := h4.rd
      generalize hn7 : ([] ++ xv ++ yv.drop 1).length = n7 at *
      have H9 := Lh h4
      have hS : Gr w3 wy3 := HGb.out.trans h4.2
      clear h4 g4
      refine hK.out _ _ hS ?_
      clear hK K9
      refine H1 8 tv hS ?_
      refine Hr 9 rfl (fun K9 hK => ?_)
      obtain ⟨wy4, hY⟩ : ∃ W9, wy3.alloc (.cells #[.slice none 0 0, .slice none 0 0, .int .i64 0] 81) = W9 := ⟨_, rfl⟩
      go_simp
      try rw [hY]
      have gY : Gr wy3 wy4 := hY ▸ (Gr.refl wy3).alloc _
      have HBx := Lh (hY ▸ heap_alloc_new wy3 _ : BoxH wy4 wy3.heap.size)
      have HBz := Lh (hS.size : w3.heap.size ≤ wy3.heap.size)
      have H9 := Lh (H9.out.gr gY)
      have hS : Gr w3 wy4 := hS.trans gY
      generalize hbn : wy3.heap.size = bn at *
      clear hbn
      refine hK.out _ _ hS ?_
      clear hK K9 hY
      have H9 := Lh (H9.out.base HGb.out)
      have hne := HBx.out.ne H9.out
      obtain ⟨wE, hwE, gE, sE, n0, n1, n2⟩ := put3w HBx.out.st (.slice b7 n7 c7) (.slice none 0 0) (.int .i64 0)
      obtain ⟨⟨o0, o1, o2, x0, x1, x2⟩, f0, f1, f2⟩ := HBx.out.st
      have HE := Lh (OwnL.far3 H9.out HBz.out hne gE)
      refine Hr 10 rfl (fun K9 hK => ?_)
      go_simp
      try rw [hwE]
      refine hK.out _ _ HE.out.2 ?_
      clear hK K9 hS hwE f0 f1 f2 x0 x1 x2 gE
      refine Hd ?_
      obtain ⟨_, f0, f1, f2⟩ := sE
      have p2 := HE.out.2.cell PX.out
      have q2 := HE.out.2.cell PY.out
      obtain ⟨wP, hwP, gP, sP, k0, k1, k2⟩ := put1w ⟨⟨_, _, _, n0, n1, n2⟩, f0, f1, f2⟩ n0 n1 (.int .i64 pr)
      have HP := Lh (OwnL.far3 HE.out HBz.out hne gP)
      clear gP
      obtain ⟨wL, hwL, gL, sL, r0, r1, r2⟩ := put3w (HZ.out.gr HP.out.2) (.slice b7 n7 c7) (.slice none 0 0) (.int .i64 (pr))
      obtain ⟨⟨oz0, oz1, oz2, xz0, xz1, xz2⟩, fz0, fz1, fz2⟩ := HZ.out.gr HP.out.2
      have HOw := Lh (HP.out.base HG3.out)
      have HOf := Lh (OwnL.far3 HOw.out (by rw [hbx]; exact HZb.out.1) (fun e => by have := (HP.out.1.lt _ e).1; have := HZb.out.2; omega) gL)
      go_wp2_with fail
      try rw [hwL]
      refine bodyPost_ret (v := .agg #[.slice b7 n7 c7, .slice none 0 0, .int .i64 (pr)]) (by simp [results, Tryz.results117, go_sem, r0, r1, r2]) rfl ?_
      obtain ⟨a9, c9, e9, hr9, ho9⟩ := HOf.out.rd
      rw [hn7] at e9 hr9 ho9
      cases e9
      rw [HM.out]
      exact ⟨_, _, _, rfl, rfl, HOf.out.2, by have := hr9; simpa using this, OwnL.old HOf.out hn7.symm⟩
     obtain ⟨wy5, hY⟩ : ∃ W9, wy2.alloc (.cells #[.slice none 0 0, .slice none 0 0, .int .i64 0] 81) = W9 := ⟨_, rfl⟩
     go_simp
     try rw [hY]
     have gY : Gr wy2 wy5 := hY ▸ (Gr.refl wy2).alloc _
     have HBx := Lh (hY ▸ heap_alloc_new wy2 _ : BoxH wy5 wy2.heap.size)
     have HBz := Lh (hS.size : w3.heap.size ≤ wy2.heap.size)
     have H9 := Lh (H9.out.gr gY)
     have hS : Gr w3 wy5 := hS.trans gY
     generalize hbn : wy2.heap.size = bn at *
     clear hbn
     refine hK.out _ _ hS ?_
     clear hK K9 hY
     refine Hr 7 rfl (fun K9 hK => ?_)
     refine wpIn_cat_rd _ _ rfl _ ([] ++ xv) (yv.drop 1) rfl H9.out _ (1 - 1) _ rfl (HYV.out _ hS) HK2.out ?_
     intro v7 wy6 h4 g4
     obtain ⟨b7, c7, rfl, _, _⟩ := h4.rd
     generalize hn7 : ([] ++ xv ++ yv.drop 1).length = n7 at *
     have HBx := Lh (HBx.out.grown H9.out g4)
     have H9 := Lh h4
     have hS : Gr w3 wy6 := HGb.out.trans h4.2
     clear h4 g4
     refine hK.out _ _ hS ?_
     clear hK K9
     refine H1 8 tv hS ?_
     have H9 := Lh (H9.out.base HGb.out)
     have hne := HBx.out.ne H9.out
     obtain ⟨wE, hwE, gE, sE, n0, n1, n2⟩ := put3w HBx.out.st (.slice b7 n7 c7) (.slice none 0 0) (.int .i64 0)
     obtain ⟨⟨o0, o1, o2, x0, x1, x2⟩, f0, f1, f2⟩ := HBx.out.st
     have HE := Lh (OwnL.far3 H9.out HBz.out hne gE)
     refine Hr 10 rfl (fun K9 hK => ?_)
     go_simp
     try rw [hwE]
     refine hK.out _ _ HE.out.2 ?_
     clear hK K9 hS hwE f0 f1 f2 x0 x1 x2 gE
     refine Hd ?_
     obtain ⟨_, f0, f1, f2⟩ := sE
     have p2 := HE.out.2.cell PX.out
     have q2 := HE.out.2.cell PY.out
     obtain ⟨wP, hwP, gP, sP, k0, k1, k2⟩ := put1w ⟨⟨_, _, _, n0, n1, n2⟩, f0, f1, f2⟩ n0 n1 (.int .i64 pr)
     have HP := Lh (OwnL.far3 HE.out HBz.out hne gP)
     clear gP
     obtain ⟨wL, hwL, gL, sL, r0, r1, r2⟩ := put3w (HZ.out.gr HP.out.2) (.slice b7 n7 c7) (.slice none 0 0) (.int .i64 (pr))
     obtain ⟨⟨oz0, oz1, oz2, xz0, xz1, xz2⟩, fz0, fz1, fz2⟩ := HZ.out.gr HP.out.2
     have HOw := Lh (HP.out.base HG3.out)
     have HOf := Lh (OwnL.far3 HOw.out (by rw [hbx]; exact HZb.out.1) (fun e => by have := (HP.out.1.lt _ e).1; have := HZb.out.2; omega) gL)
     go_wp2_with fail
     try rw [hwL]
     refine bodyPost_ret (v := .agg #[.slice b7 n7 c7, .slice none 0 0, .int .i64 (pr)]) (by simp [results, Tryz.results117, go_sem, r0, r1, r2]) rfl ?_
     obtain ⟨a9, c9, e9, hr9, ho9⟩ := HOf.out.rd
     rw [hn7] at e9 hr9 ho9
     cases e9
     rw [HM.out]
     exact ⟨_, _, _, rfl, rfl, HOf.out.2, by have := hr9; simpa using this, OwnL.old HOf.out hn7.symm⟩
    obtain ⟨wy7, hY⟩ : ∃ W9, wy1.alloc (.cells #[.slice none 0 0, .slice none 0 0, .int .i64 0] 81) = W9 := ⟨_, rfl⟩
    go_simp
    try rw [hY]
    have gY : Gr wy1 wy7 := hY ▸ (Gr.refl wy1).alloc _
    have HBx := Lh (hY ▸ heap_alloc_new wy1 _ : BoxH wy7 wy1.heap.size)
    have HBz := Lh (hS.size : w3.heap.size ≤ wy1.heap.size)
    have H9 := Lh (H9.out.gr gY)
    have hS : Gr w3 wy7 := hS.trans gY
    generalize hbn : wy1.heap.size = bn at *
    clear hbn
    refine hK.out _ _ hS ?_
    clear hK K9 hY
    refine Hr 3 rfl (fun K9 hK => ?_)
    refine wpIn_cat_rd _ _ rfl _ [] xv rfl H9.out _ xn _ rfl (HXV.out _ hS) HK1.out ?_
    intro v3 wy8 h4 g4
    have HBx := Lh (HBx.out.grown H9.out g4)
    have H9 := Lh h4
    have hS : Gr w3 wy8 := HGb.out.trans h4.2
    clear h4 g4
    refine hK.out _ _ hS ?_
    clear hK K9
    refine Hr 7 rfl (fun K9 hK => ?_)
    refine wpIn_cat_rd _ _ rfl _ ([] ++ xv) (yv.drop 1) rfl H9.out _ (1 - 1) _ rfl (HYV.out _ hS) HK2.out ?_
    intro v7 wy9 h4 g4
    obtain ⟨b7, c7, rfl, _, _⟩ := h4.rd
    generalize hn7 : ([] ++ xv ++ yv.drop 1).length = n7 at *
    have HBx := Lh (HBx.out.grown H9.out g4)
    have H9 := Lh h4
    have hS : Gr w3 wy9 := HGb.out.trans h4.2
    clear h4 g4
    refine hK.out _ _ hS ?_
    clear hK K9
    refine H1 8 tv hS ?_
    have H9 := Lh (H9.out.base HGb.out)
    have hne := HBx.out.ne H9.out
    obtain ⟨wE, hwE, gE, sE, n0, n1, n2⟩ := put3w HBx.out.st (.slice b7 n7 c7) (.slice none 0 0) (.int .i64 0)
    obtain ⟨⟨o0, o1, o2, x0, x1, x2⟩, f0, f1, f2⟩ := HBx.out.st
    have HE := Lh (OwnL.far3 H9.out HBz.out hne gE)
    refine Hr 10 rfl (fun K9 hK => ?_)
    go_simp
    try rw [hwE]
    refine hK.out _ _ HE.out.2 ?_
    clear hK K9 hS hwE f0 f1 f2 x0 x1 x2 gE
    refine Hd ?_
    obtain ⟨_, f0, f1, f2⟩ := sE
    have p2 := HE.out.2.cell PX.out
    have q2 := HE.out.2.cell PY.out
    obtain ⟨wP, hwP, gP, sP, k0, k1, k2⟩ := put1w ⟨⟨_, _, _, n0, n1, n2⟩, f0, f1, f2⟩ n0 n1 (.int .i64 pr)
    have HP := Lh (OwnL.far3 HE.out HBz.out hne gP)
    clear gP
    obtain ⟨wL, hwL, gL, sL, r0, r1, r2⟩ := put3w (HZ.out.gr HP.out.2) (.slice b7 n7 c7) (.slice none 0 0) (.int .i64 (pr))
    obtain ⟨⟨oz0, oz1, oz2, xz0, xz1, xz2⟩, fz0, fz1, fz2⟩ := HZ.out.gr HP.out.2
    have HOw := Lh (HP.out.base HG3.out)
    have HOf := Lh (OwnL.far3 HOw.out (by rw [hbx]; exact HZb.out.1) (fun e => by have := (HP.out.1.lt _ e).1; have := HZb.out.2; omega) gL)
    go_wp2_with fail
    try rw [hwL]
    refine bodyPost_ret (v := .agg #[.slice b7 n7 c7, .slice none 0 0, .int .i64 (pr)]) (by simp [results, Tryz.results117, go_sem, r0, r1, r2]) rfl ?_
    obtain ⟨a9, c9, e9, hr9, ho9⟩ := HOf.out.rd
    rw [hn7] at e9 hr9 ho9
    cases e9
    rw [HM.out]
    exact ⟨_, _, _, rfl, rfl, HOf.out.2, by have := hr9; simpa using this, OwnL.old HOf.out hn7.symm⟩
   obtain ⟨wy10, hY⟩ : ∃ W9, wU.alloc (.cells #[.slice none 0 0, .slice none 0 0, .int .i64 0] 81) = W9 := ⟨_, rfl⟩
   go_simp
   try rw [hY]
   have gY : Gr wU wy10 := hY ▸ (Gr.refl wU).alloc _
   have HBx := Lh (hY ▸ heap_alloc_new wU _ : BoxH wy10 wU.heap.size)
   have HBz := Lh (hS.size : w3.heap.size ≤ wU.heap.size)
   have hS : Gr w3 wy10 := hS.trans gY
   generalize hbn : wU.heap.size = bn at *
   clear hbn
   refine hK.out _ _ hS ?_
   clear hK K9 hY
   refine Hr 0 rfl (fun K9 hK => ?_)
   obtain ⟨wy11, hY⟩ : ∃ W9, wy10.alloc (.cells #[] 3) = W9 := ⟨_, rfl⟩
   go_simp
   try rw [hY]
   have gY : Gr wy10 wy11 := hY ▸ (Gr.refl wy10).alloc _
   have H9 := Lh (hY ▸ OwnL.lit0 wy10 : OwnL wy10 wy11 (.slice (some ⟨wy10.heap.size, 0, none⟩) 0 0) [])
   have HGb := Lh hS
   have HBx := Lh (HBx.out.gr gY)
   have hS : Gr w3 wy11 := hS.trans gY
   refine hK.out _ _ hS ?_
   clear hK K9 hY
   refine Hr 3 rfl (fun K9 hK => ?_)
   refine wpIn_cat_rd _ _ rfl _ [] xv rfl H9.out _ xn _ rfl (HXV.out _ hS) HK1.out ?_
   intro v3 wy12 h4 g4
   have HBx := Lh (HBx.out.grown H9.out g4)
   have H9 := Lh h4
   have hS : Gr w3 wy12 := HGb.out.trans h4.2
   clear h4 g4
   refine hK.out _ _ hS ?_
   clear hK K9
   refine Hr 7 rfl (fun K9 hK => ?_)
   refine wpIn_cat_rd _ _ rfl _ ([] ++ xv) (yv.drop 1) rfl H9.out _ (1 - 1) _ rfl (HYV.out _ hS) HK2.out ?_
   intro v7 wy13 h4 g4
   obtain ⟨b7, c7, rfl, _, _⟩ := h4.rd
   generalize hn7 : ([] ++ xv ++ yv.drop 1).length = n7 at *
   have HBx := Lh (HBx.out.grown H9.out g4)
   have H9 := Lh h4
   have hS : Gr w3 wy13 := HGb.out.trans h4.2
   clear h4 g4
   refine hK.out _ _ hS ?_
   clear hK K9
   refine H1 8 tv hS ?_
   have H9 := Lh (H9.out.base HGb.out)
   have hne := HBx.out.ne H9.out
   obtain ⟨wE, hwE, gE, sE, n0, n1, n2⟩ := put3w HBx.out.st (.slice b7 n7 c7) (.slice none 0 0) (.int .i64 0)
   obtain ⟨⟨o0, o1, o2, x0, x1, x2⟩, f0, f1, f2⟩ := HBx.out.st
   have HE := Lh (OwnL.far3 H9.out HBz.out hne gE)
   refine Hr 10 rfl (fun K9 hK => ?_)
   go_simp
   try rw [hwE]
   refine hK.out _ _ HE.out.2 ?_
   clear hK K9 hS hwE f0 f1 f2 x0 x1 x2 gE
   refine Hd ?_
   obtain ⟨_, f0, f1, f2⟩ := sE
   have p2 := HE.out.2.cell PX.out
   have q2 := HE.out.2.cell PY.out
   obtain ⟨wP, hwP, gP, sP, k0, k1, k2⟩ := put1w ⟨⟨_, _, _, n0, n1, n2⟩, f0, f1, f2⟩ n0 n1 (.int .i64 pr)
   have HP := Lh (OwnL.far3 HE.out HBz.out hne gP)
   clear gP
   obtain ⟨wL, hwL, gL, sL, r0, r1, r2⟩ := put3w (HZ.out.gr HP.out.2) (.slice b7 n7 c7) (.slice none 0 0) (.int .i64 (pr))
   obtain ⟨⟨oz0, oz1, oz2, xz0, xz1, xz2⟩, fz0, fz1, fz2⟩ := HZ.out.gr HP.out.2
   have HOw := Lh (HP.out.base HG3.out)
   have HOf := Lh (OwnL.far3 HOw.out (by rw [hbx]; exact HZb.out.1) (fun e => by have := (HP.out.1.lt _ e).1; have := HZb.out.2; omega) gL)
   go_wp2_with fail
   try rw [hwL]
   refine bodyPost_ret (v := .agg #[.slice b7 n7 c7, .slice none 0 0, .int .i64 (pr)]) (by simp [results, Tryz.results117, go_sem, r0, r1, r2]) rfl ?_
   obtain ⟨a9, c9, e9, hr9, ho9⟩ := HOf.out.rd
   rw [hn7] at e9 hr9 ho9
   cases e9
   rw [HM.out]
   exact ⟨_, _, _, rfl, rfl, HOf.out.2, by have := hr9; simpa using this, OwnL.old HOf.out hn7.symm⟩
 have hyc' : ¬ yc = 1 := hyc
 have HYV := Lh (fun W (k : Gr w3 W) => Rd3.drop1 (HY0.out.gr (HG3.out.trans k)) hy1)
 clear hy hy1
 rcases hh with rfl | rfl
 ·have hyp := hp rfl
  have hd : (1000000000000000 : Int).tdiv yy = 1000000000000000 / yy := Int.tdiv_eq_ediv_of_nonneg (by omega)
  have hy0 : ¬ yy = 0 := by omega
  have hq0 : 0 ≤ (1000000000000000 : Int) / yy := Int.ediv_nonneg (by omega) (by omega)
  have hq1 : (1000000000000000 : Int) / yy ≤ 1000000000000000 := Int.ediv_le_self _ (by omega)
  have HDv := Lh (show ∀ z : Int, z ≤ 1000000000000000 / yy → z * yy ≤ 1000000000000000 from fun z hz => Int.le_trans (Int.mul_le_mul_of_nonneg_right hz (by omega)) (Int.ediv_mul_le _ (by omega)))
  obtain ⟨qd, hqd⟩ : ∃ qd : Int, 1000000000000000 / yy = qd := ⟨_, rfl⟩
  rw [hqd] at hd hq0 hq1 HDv
  have e1 : wrap64 ((1000000000000000 : Int).tdiv yy) = qd := by rw [hd]; exact IntWalk.wrap64_in _ (by omega)
  have e2 : IntKind.i64.wrap ((1000000000000000 : Int).tdiv yy) = qd := by rw [hd]; exact IntWalk.i64_in _ (by omega)
  have e5 : IntKind.i64.wrap qd = qd := IntWalk.i64_in _ (by omega)
  have e6 : wrap64 qd = qd := IntWalk.wrap64_in _ (by omega)
  by_cases hf : xy ≤ qd
  ·have hfd : decide (xy ≤ qd) = true := decide_eq_true hf
   obtain ⟨pr, hpr⟩ : ∃ pr, xy * yy = pr := ⟨_, rfl⟩
   have e3 : wrap64 (xy * yy) = pr := by
    rw [hpr]
    exact IntWalk.wrap64_in _ (by have h1 := HDv.out xy hf; have h2 := Int.mul_nonneg HB.out.1.1 (show 0 ≤ yy by omega); omega)
   have e4 : IntKind.i64.wrap (xy * yy) = pr := by
    rw [hpr]
    exact IntWalk.i64_in _ (by have h1 := HDv.out xy hf; have h2 := Int.mul_nonneg HB.out.1.1 (show 0 ≤ yy by omega); omega)
   have HM := Lh (show mulH 2 (xL, xy) (yL, yy) = ([], pr) by
    unfold mulH
    rw [if_neg (by decide), if_pos rfl]
    show ([], if xy ≤ MX / yy then xy * yy else MX + 1) = _
    rw [if_pos (by show xy ≤ 1000000000000000 / yy; omega), hpr])
   clear hpr HDv hqd hq0 hq1 hyp hf
   as_aux_lemma =>
    go_upto_region 1 with fail
    refine Hg (fun w' => Gr w3 w') 11 ?_
    have hS : Gr w3 w3.drew := (Gr.refl w3).drew
    obtain ⟨wU, hw9⟩ : ∃ W9, w3.drew = W9 := ⟨_, rfl⟩
    rw [hw9] at hS ⊢
    clear hw9
    refine H5 1 2 4 5 6 (c2 x0 y0) hS ?_
    refine Hq [0, 9] ?_
    refine Hc (fun K9 hK => ?_) (Hc (fun K9 hK => ?_) AllHIn.nil)
    ·obtain ⟨wy1, hY⟩ : ∃ W9, wU.alloc (.cells #[] 3) = W9 := ⟨_, rfl⟩
     go_simp
     try rw [hY]
     have gY : Gr wU wy1 := hY ▸ (Gr.refl wU).alloc _
     have H9 := Lh (hY ▸ OwnL.lit0 wU : OwnL wU wy1 (.slice (some ⟨wU.heap.size, 0, none⟩) 0 0) [])
     have HGb := Lh hS
     have hS : Gr w3 wy1 := hS.trans gY
     refine hK.out _ _ hS ?_
     clear hK K9 hY
     refine Hq [3, 9] ?_
     refine Hc (fun K9 hK => ?_) (Hc (fun K9 hK => ?_) AllHIn.nil)
     ·refine wpIn_cat_rd _ _ rfl _ [] xv rfl H9.out _ xn _ rfl (HXV.out _ hS) HK1.out ?_
      intro v3 wy2 h4 g4
      have H9 := Lh h4
      have hS : Gr w3 wy2 := HGb.out.trans h4.2
      clear h4 g4
      refine hK.out _ _ hS ?_
      clear hK K9
      refine Hq [7, 9] ?_
      refine Hc (fun K9 hK => ?_) (Hc (fun K9 hK => ?_) AllHIn.nil)
      ·refine wpIn_cat_rd _ _ rfl _ ([] ++ xv) (yv.drop 1) rfl H9.out _ (yn - 1) _ rfl (HYV.out _ hS) HK2.out ?_
       intro v7 wy3 h4 g4
       obtain ⟨b7, c7, rfl, _, _⟩ := h4.rd
       generalize hn7 : ([] ++ xv ++ yv.drop 1).length = n7 at *
       have H9 := Lh h4
       have hS : Gr w3 wy3 := HGb.out.trans h4.2
       clear h4 g4
       refine hK.out _ _ hS ?_
       clear hK K9
       refine H1 8 tv hS ?_
       refine Hr 9 rfl (fun K9 hK => ?_)
       obtain ⟨wy4, hY⟩ : ∃ W9, wy3.alloc (.cells #[.slice none 0 0, .slice none 0 0, .int .i64 0] 81) = W9 := ⟨_, rfl⟩
       go_simp
       try rw [hY]
       have gY : Gr wy3 wy4 := hY ▸ (Gr.refl wy3).alloc _
       have HBx := Lh (hY ▸ heap_alloc_new wy3 _ : BoxH wy4 wy3.heap.size)
       have HBz := Lh (hS.size : w3.heap.size ≤ wy3.heap.size)
       have H9 := Lh (H9.out.gr gY)
       have hS : Gr w3 wy4 := hS.trans gY
       generalize hbn : wy3.heap.size = bn at *
       clear hbn
       refine hK.out _ _ hS ?_
       clear hK K9 hY
       have H9 := Lh (H9.out.base HGb.out)
       have hne := HBx.out.ne H9.out
       obtain ⟨wE, hwE, gE, sE, n0, n1, n2⟩ := put3w HBx.out.st (.slice b7 n7 c7) (.slice none 0 0) (.int .i64 0)
       obtain ⟨⟨o0, o1, o2, x0, x1, x2⟩, f0, f1, f2⟩ := HBx.out.st
       have HE := Lh (OwnL.far3 H9.out HBz.out hne gE)
       refine Hr 10 rfl (fun K9 hK => ?_)
       go_simp
       try rw [hwE]
       refine hK.out _ _ HE.out.2 ?_
       clear hK K9 hS hwE f0 f1 f2 x0 x1 x2 gE
       refine Hd ?_
       obtain ⟨_, f0, f1, f2⟩ := sE
       obtain ⟨wF, hwF, gF, sF, m0, m1, m2⟩ := put1w ⟨⟨_, _, _, n0, n1, n2⟩, f0, f1, f2⟩ n0 n1 (.int .i64 1000000000000001)
       have HF := Lh (OwnL.far3 HE.out HBz.out hne gF)
       go_upto_region 7 with fail
       try rw [hwF]
       clear hwF n0 n1 n2 f0 f1 f2 gF
       obtain ⟨_, f0, f1, f2⟩ := sF
       have p2 := HF.out.2.cell PX.out
       have q2 := HF.out.2.cell PY.out
       refine Hg (fun w' => Gr wF w') 6 ?_
       have hS : Gr wF wF.drew := (Gr.refl wF).drew
       obtain ⟨wT, hw9⟩ : ∃ W9, wF.drew = W9 := ⟨_, rfl⟩
       rw [hw9] at hS ⊢
       clear hw9
       refine H5 0 1 2 3 4 (c2 p2 q2) hS ?_; refine H1 5 (c2 p2 q2) hS ?_
       refine Hd ?_
       have HT := Lh (HF.out.gr hS)
       have g0 := (Below.frozen hS (World.block_lt_of_cell? _ _ m0)).trans f0
       have g1 := (Below.frozen hS (World.block_lt_of_cell? _ _ m1)).trans f1
       have g2 := (Below.frozen hS (World.block_lt_of_cell? _ _ m2)).trans f2
       replace m0 := hS.cell m0
       replace m1 := hS.cell m1
       replace m2 := hS.cell m2
       have p3 := hS.cell p2
       have q3 := hS.cell q2
       clear hS f0 f1 f2 p2 q2
       obtain ⟨wP, hwP, gP, sP, k0, k1, k2⟩ := put1w ⟨⟨_, _, _, m0, m1, m2⟩, g0, g1, g2⟩ m0 m1 (.int .i64 pr)
       have HP := Lh (OwnL.far3 HT.out HBz.out hne gP)
       clear gP
       obtain ⟨wL, hwL, gL, sL, r0, r1, r2⟩ := put3w (HZ.out.gr HP.out.2) (.slice b7 n7 c7) (.slice none 0 0) (.int .i64 (pr))
       obtain ⟨⟨oz0, oz1, oz2, xz0, xz1, xz2⟩, fz0, fz1, fz2⟩ := HZ.out.gr HP.out.2
       have HOw := Lh (HP.out.base HG3.out)
       have HOf := Lh (OwnL.far3 HOw.out (by rw [hbx]; exact HZb.out.1) (fun e => by have := (HP.out.1.lt _ e).1; have := HZb.out.2; omega) gL)
       go_wp2_with fail
       try rw [hwL]
       refine bodyPost_ret (v := .agg #[.slice b7 n7 c7, .slice none 0 0, .int .i64 (pr)]) (by simp [results, Tryz.results117, go_sem, r0, r1, r2]) rfl ?_
       obtain ⟨a9, c9, e9, hr9, ho9⟩ := HOf.out.rd
       rw [hn7] at e9 hr9 ho9
       cases e9
       rw [HM.out]
       exact ⟨_, _, _, rfl, rfl, HOf.out.2, by have := hr9; simpa using this, OwnL.old HOf.out hn7.symm⟩
      obtain ⟨wy5, hY⟩ : ∃ W9, wy2.alloc (.cells #[.slice none 0 0, .slice none 0 0, .int .i64 0] 81) = W9 := ⟨_, rfl⟩
      go_simp
      try rw [hY]
      have gY : Gr wy2 wy5 := hY ▸ (Gr.refl wy2).alloc _
      have HBx := Lh (hY ▸ heap_alloc_new wy2 _ : BoxH wy5 wy2.heap.size)
      have HBz := Lh (hS.size : w3.heap.size ≤ wy2.heap.size)
      have H9 := Lh (H9.out.gr gY)
      have hS : Gr w3 wy5 := hS.trans gY
      generalize hbn : wy2.heap.size = bn at *
      clear hbn
      refine hK.out _ _ hS ?_
      clear hK K9 hY
      refine Hr 7 rfl (fun K9 hK => ?_)
      refine wpIn_cat_rd _ _ rfl _ ([] ++ xv) (yv.drop 1) rfl H9.out _ (yn - 1) _ rfl (HYV.out _ hS) HK2.out ?_
      intro v7 wy6 h4 g4
      obtain ⟨b7, c7, rfl, _, _⟩ := h4.rd
      generalize hn7 : ([] ++ xv ++ yv.drop 1).length = n7 at *
      have HBx := Lh (HBx.out.grown H9.out g4)
      have H9 := Lh h4
      have hS : Gr w3 wy6 := HGb.out.trans h4.2
      clear h4 g4
      refine hK.out _ _ hS ?_
      clear hK K9
      refine H1 8 tv hS ?_
      have H9 := Lh (H9.out.base HGb.out)
      have hne := HBx.out.ne H9.out
      obtain ⟨wE, hwE, gE, sE, n0, n1, n2⟩ := put3w HBx.out.st (.slice b7 n7 c7) (.slice none 0 0) (.int .i64 0)
      obtain ⟨⟨o0, o1, o2, x0, x1, x2⟩, f0, f1, f2⟩ := HBx.out.st
      have HE := Lh (OwnL.far3 H9.out HBz.out hne gE)
      refine Hr 10 rfl (fun K9 hK => ?_)
      go_simp
      try rw [hwE]
      refine hK.out _ _ HE.out.2 ?_
      clear hK K9 hS hwE f0 f1 f2 x0 x1 x2 gE
      refine Hd ?_
      obtain ⟨_, f0, f1, f2⟩ := sE
      obtain ⟨wF, hwF, gF, sF, m0, m1, m2⟩ := put1w ⟨⟨_, _, _, n0, n1, n2⟩, f0, f1, f2⟩ n0 n1 (.int .i64 1000000000000001)
      have HF := Lh (OwnL.far3 HE.out HBz.out hne gF)
      go_upto_region 7 with fail
      try rw [hwF]
      clear hwF n0 n1 n2 f0 f1 f2 gF
      obtain ⟨_, f0, f1, f2⟩ := sF
      have p2 := HF.out.2.cell PX.out
      have q2 := HF.out.2.cell PY.out
      refine Hg (fun w' => Gr wF w') 6 ?_
      have hS : Gr wF wF.drew := (Gr.refl wF).drew
      obtain ⟨wT, hw9⟩ : ∃ W9, wF.drew = W9 := ⟨_, rfl⟩
      rw [hw9] at hS ⊢
      clear hw9
      refine H5 0 1 2 3 4 (c2 p2 q2) hS ?_; refine H1 5 (c2 p2 q2) hS ?_
      refine Hd ?_
      have HT := Lh (HF.out.gr hS)
      have g0 := (Below.frozen hS (World.block_lt_of_cell? _ _ m0)).trans f0
      have g1 := (Below.frozen hS (World.block_lt_of_cell? _ _ m1)).trans f1
      have g2 := (Below.frozen hS (World.block_lt_of_cell? _ _ m2)).trans f2
      replace m0 := hS.cell m0
      replace m1 := hS.cell m1
      replace m2 := hS.cell m2
      have p3 := hS.cell p2
      have q3 := hS.cell q2
      clear hS f0 f1 f2 p2 q2
      obtain ⟨wP, hwP, gP, sP, k0, k1, k2⟩ := put1w ⟨⟨_, _, _, m0, m1, m2⟩, g0, g1, g2⟩ m0 m1 (.int .i64 pr)
      have HP := Lh (OwnL.far3 HT.out HBz.out hne gP)
      clear gP
      obtain ⟨wL, hwL, gL, sL, r0, r1, r2⟩ := put3w (HZ.out.gr HP.out.2) (.slice b7 n7 c7) (.slice none 0 0) (.int .i64 (pr))
      obtain ⟨⟨oz0, oz1, oz2, xz0, xz1, xz2⟩, fz0, fz1, fz2⟩ := HZ.out.gr HP.out.2
      have HOw := Lh (HP.out.base HG3.out)
      have HOf := Lh (OwnL.far3 HOw.out (by rw [hbx]; exact HZb.out.1) (fun e => by have := (HP.out.1.lt _ e).1; have := HZb.out.2; omega) gL)
      go_wp2_with fail
      try rw [hwL]
      refine bodyPost_ret (v := .agg #[.slice b7 n7 c7, .slice none 0 0, .int .i64 (pr)]) (by simp [results, Tryz.results117, go_sem, r0, r1, r2]) rfl ?_
      obtain ⟨a9, c9, e9, hr9, ho9⟩ := HOf.out.rd
      rw [hn7] at e9 hr9 ho9
      cases e9
      rw [HM.out]
      exact ⟨_, _, _, rfl, rfl, HOf.out.2, by have := hr9; simpa using this, OwnL.old HOf.out hn7.symm⟩
     obtain ⟨wy7, hY⟩ : ∃ W9, wy1.alloc (.cells #[.slice none 0 0, .slice none 0 0, .int .i64 0] 81) = W9 := ⟨_, rfl⟩
     go_simp
     try rw [hY]
     have gY : Gr wy1 wy7 := hY ▸ (Gr.refl wy1).alloc _
     have HBx := Lh (hY ▸ heap_alloc_new wy1 _ : BoxH wy7 wy1.heap.size)
     have HBz := Lh (hS.size : w3.heap.size ≤ wy1.heap.size)
     have H9 := Lh (H9.out.gr gY)
     have hS : Gr w3 wy7 := hS.trans gY
     generalize hbn : wy1.heap.size = bn at *
     clear hbn
     refine hK.out _ _ hS ?_
     clear hK K9 hY
     refine Hr 3 rfl (fun K9 hK => ?_)
     refine wpIn_cat_rd _ _ rfl _ [] xv rfl H9.out _ xn _ rfl (HXV.out _ hS) HK1.out ?_
     intro v3 wy8 h4 g4
     have HBx := Lh (HBx.out.grown H9.out g4)
     have H9 := Lh h4
     have hS : Gr w3 wy8 := HGb.out.trans h4.2
     clear h4 g4
     refine hK.out _ _ hS ?_
     clear hK K9
     refine Hr 7 rfl (fun K9 hK => ?_)
     refine wpIn_cat_rd _ _ rfl _ ([] ++ xv) (yv.drop 1) rfl H9.out _ (yn - 1) _ rfl (HYV.out _ hS) HK2.out ?_
     intro v7 wy9 h4 g4
     obtain ⟨b7, c7, rfl, _, _⟩ := h4.rd
     generalize hn7 : ([] ++ xv ++ yv.drop 1).length = n7 at *
     have HBx := Lh (HBx.out.grown H9.out g4)
     have H9 := Lh h4
     have hS : Gr w3 wy9 := HGb.out.trans h4.2
     clear h4 g4
     refine hK.out _ _ hS ?_
     clear hK K9
     refine H1 8 tv hS ?_
     have H9 := Lh (H9.out.base HGb.out)
     have hne := HBx.out.ne H9.out
     obtain ⟨wE, hwE, gE, sE, n0, n1, n2⟩ := put3w HBx.out.st (.slice b7 n7 c7) (.slice none 0 0) (.int .i64 0)
     obtain ⟨⟨o0, o1, o2, x0, x1, x2⟩, f0, f1, f2⟩ := HBx.out.st
     have HE := Lh (OwnL.far3 H9.out HBz.out hne gE)
     refine Hr 10 rfl (fun K9 hK => ?_)
     go_simp
     try rw [hwE]
     refine hK.out _ _ HE.out.2 ?_
     clear hK K9 hS hwE f0 f1 f2 x0 x1 x2 gE
     refine Hd ?_
     obtain ⟨_, f0, f1, f2⟩ := sE
     obtain ⟨wF, hwF, gF, sF, m0, m1, m2⟩ := put1w ⟨⟨_, _, _, n0, n1, n2⟩, f0, f1, f2⟩ n0 n1 (.int .i64 1000000000000001)
     have HF := Lh (OwnL.far3 HE.out HBz.out hne gF)
     go_upto_region 7 with fail
     try rw [hwF]
     clear hwF n0 n1 n2 f0 f1 f2 gF
     obtain ⟨_, f0, f1, f2⟩ := sF
     have p2 := HF.out.2.cell PX.out
     have q2 := HF.out.2.cell PY.out
     refine Hg (fun w' => Gr wF w') 6 ?_
     have hS : Gr wF wF.drew := (Gr.refl wF).drew
     obtain ⟨wT, hw9⟩ : ∃ W9, wF.drew = W9 := ⟨_, rfl⟩
     rw [hw9] at hS ⊢
     clear hw9
     refine H5 0 1 2 3 4 (c2 p2 q2) hS ?_; refine H1 5 (c2 p2 q2) hS ?_
     refine Hd ?_
     have HT := Lh (HF.out.gr hS)
     have g0 := (Below.frozen hS (World.block_lt_of_cell? _ _ m0)).trans f0
     have g1 := (Below.frozen hS (World.block_lt_of_cell? _ _ m1)).trans f1
     have g2 := (Below.frozen hS (World.block_lt_of_cell? _ _ m2)).trans f2
     replace m0 := hS.cell m0
     replace m1 := hS.cell m1
     replace m2 := hS.cell m2
     have p3 := hS.cell p2
     have q3 := hS.cell q2
     clear hS f0 f1 f2 p2 q2
     obtain ⟨wP, hwP, gP, sP, k0, k1, k2⟩ := put1w ⟨⟨_, _, _, m0, m1, m2⟩, g0, g1, g2⟩ m0 m1 (.int .i64 pr)
     have HP := Lh (OwnL.far3 HT.out HBz.out hne gP)
     clear gP
     obtain ⟨wL, hwL, gL, sL, r0, r1, r2⟩ := put3w (HZ.out.gr HP.out.2) (.slice b7 n7 c7) (.slice none 0 0) (.int .i64 (pr))
     obtain ⟨⟨oz0, oz1, oz2, xz0, xz1, xz2⟩, fz0, fz1, fz2⟩ := HZ.out.gr HP.out.2
     have HOw := Lh (HP.out.base HG3.out)
     have HOf := Lh (OwnL.far3 HOw.out (by rw [hbx]; exact HZb.out.1) (fun e => by have := (HP.out.1.lt _ e).1; have := HZb.out.2; omega) gL)
     go_wp2_with fail
     try rw [hwL]
     refine bodyPost_ret (v := .agg #[.slice b7 n7 c7, .slice none 0 0, .int .i64 (pr)]) (by simp [results, Tryz.results117, go_sem, r0, r1, r2]) rfl ?_
     obtain ⟨a9, c9, e9, hr9, ho9⟩ := HOf.out.rd
     rw [hn7] at e9 hr9 ho9
     cases e9
     rw [HM.out]
     exact ⟨_, _, _, rfl, rfl, HOf.out.2, by have := hr9; simpa using this, OwnL.old HOf.out hn7.symm⟩
    obtain ⟨wy10, hY⟩ : ∃ W9, wU.alloc (.cells #[.slice none 0 0, .slice none 0 0, .int .i64 0] 81) = W9 := ⟨_, rfl⟩
    go_simp
    try rw [hY]
    have gY : Gr wU wy10 := hY ▸ (Gr.refl wU).alloc _
    have HBx := Lh (hY ▸ heap_alloc_new wU _ : BoxH wy10 wU.heap.size)
    have HBz := Lh (hS.size : w3.heap.size ≤ wU.heap.size)
    have hS : Gr w3 wy10 := hS.trans gY
    generalize hbn : wU.heap.size = bn at *
    clear hbn
    refine hK.out _ _ hS ?_
    clear hK K9 hY
    refine Hr 0 rfl (fun K9 hK => ?_)
    obtain ⟨wy11, hY⟩ : ∃ W9, wy10.alloc (.cells #[] 3) = W9 := ⟨_, rfl⟩
    go_simp
    try rw [hY]
    have gY : Gr wy10 wy11 := hY ▸ (Gr.refl wy10).alloc _
    have H9 := Lh (hY ▸ OwnL.lit0 wy10 : OwnL wy10 wy11 (.slice (some ⟨wy10.heap.size, 0, none⟩) 0 0) [])
    have HGb := Lh hS
    have HBx := Lh (HBx.out.gr gY)
    have hS : Gr w3 wy11 := hS.trans gY
    refine hK.out _ _ hS ?_
    clear hK K9 hY
    refine Hr 3 rfl (fun K9 hK => ?_)
    refine wpIn_cat_rd _ _ rfl _ [] xv rfl H9.out _ xn _ rfl (HXV.out _ hS) HK1.out ?_
    intro v3 wy12 h4 g4
    have HBx := Lh (HBx.out.grown H9.out g4)
    have H9 := Lh h4
    have hS : Gr w3 wy12 := HGb.out.trans h4.2
    clear h4 g4
    refine hK.out _ _ hS ?_
    clear hK K9
    refine Hr 7 rfl (fun K9 hK => ?_)
    refine wpIn_cat_rd _ _ rfl _ ([] ++ xv) (yv.drop 1) rfl H9.out _ (yn - 1) _ rfl (HYV.out _ hS) HK2.out ?_
    intro v7 wy13 h4 g4
    obtain ⟨b7, c7, rfl, _, _⟩ := h4.rd
    generalize hn7 : ([] ++ xv ++ yv.drop 1).length = n7 at *
    have HBx := Lh (HBx.out.grown H9.out g4)
    have H9 := Lh h4
    have hS : Gr w3 wy13 := HGb.out.trans h4.2
    clear h4 g4
    refine hK.out _ _ hS ?_
    clear hK K9
    refine H1 8 tv hS ?_
    have H9 := Lh (H9.out.base HGb.out)
    have hne := HBx.out.ne H9.out
    obtain ⟨wE, hwE, gE, sE, n0, n1, n2⟩ := put3w HBx.out.st (.slice b7 n7 c7) (.slice none 0 0) (.int .i64 0)
    obtain ⟨⟨o0, o1, o2, x0, x1, x2⟩, f0, f1, f2⟩ := HBx.out.st
    have HE := Lh (OwnL.far3 H9.out HBz.out hne gE)
    refine Hr 10 rfl (fun K9 hK => ?_)
    go_simp
    try rw [hwE]
    refine hK.out _ _ HE.out.2 ?_
    clear hK K9 hS hwE f0 f1 f2 x0 x1 x2 gE
    refine Hd ?_
    obtain ⟨_, f0, f1, f2⟩ := sE
    obtain ⟨wF, hwF, gF, sF, m0, m1, m2⟩ := put1w ⟨⟨_, _, _, n0, n1, n2⟩, f0, f1, f2⟩ n0 n1 (.int .i64 1000000000000001)
    have HF := Lh (OwnL.far3 HE.out HBz.out hne gF)
    go_upto_region 7 with fail
    try rw [hwF]
    clear hwF n0 n1 n2 f0 f1 f2 gF
    obtain ⟨_, f0, f1, f2⟩ := sF
    have p2 := HF.out.2.cell PX.out
    have q2 := HF.out.2.cell PY.out
    refine Hg (fun w' => Gr wF w') 6 ?_
    have hS : Gr wF wF.drew := (Gr.refl wF).drew
    obtain ⟨wT, hw9⟩ : ∃ W9, wF.drew = W9 := ⟨_, rfl⟩
    rw [hw9] at hS ⊢
    clear hw9
    refine H5 0 1 2 3 4 (c2 p2 q2) hS ?_; refine H1 5 (c2 p2 q2) hS ?_
    refine Hd ?_
    have HT := Lh (HF.out.gr hS)
    have g0 := (Below.frozen hS (World.block_lt_of_cell? _ _ m0)).trans f0
    have g1 := (Below.frozen hS (World.block_lt_of_cell? _ _ m1)).trans f1
    have g2 := (Below.frozen hS (World.block_lt_of_cell? _ _ m2)).trans f2
    replace m0 := hS.cell m0
    replace m1 := hS.cell m1
    replace m2 := hS.cell m2
    have p3 := hS.cell p2
    have q3 := hS.cell q2
    clear hS f0 f1 f2 p2 q2
    obtain ⟨wP, hwP, gP, sP, k0, k1, k2⟩ := put1w ⟨⟨_, _, _, m0, m1, m2⟩, g0, g1, g2⟩ m0 m1 (.int .i64 pr)
    have HP := Lh (OwnL.far3 HT.out HBz.out hne gP)
    clear gP
    obtain ⟨wL, hwL, gL, sL, r0, r1, r2⟩ := put3w (HZ.out.gr HP.out.2) (.slice b7 n7 c7) (.slice none 0 0) (.int .i64 (pr))
    obtain ⟨⟨oz0, oz1, oz2, xz0, xz1, xz2⟩, fz0, fz1, fz2⟩ := HZ.out.gr HP.out.2
    have HOw := Lh (HP.out.base HG3.out)
    have HOf := Lh (OwnL.far3 HOw.out (by rw [hbx]; exact HZb.out.1) (fun e => by have := (HP.out.1.lt _ e).1; have := HZb.out.2; omega) gL)
    go_wp2_with fail
    try rw [hwL]
    refine bodyPost_ret (v := .agg #[.slice b7 n7 c7, .slice none 0 0, .int .i64 (pr)]) (by simp [results, Tryz.results117, go_sem, r0, r1, r2]) rfl ?_
    obtain ⟨a9, c9, e9, hr9, ho9⟩ := HOf.out.rd
    rw [hn7] at e9 hr9 ho9
    cases e9
    rw [HM.out]
    exact ⟨_, _, _, rfl, rfl, HOf.out.2, by have := hr9; simpa using this, OwnL.old HOf.out hn7.symm⟩
  have hfd : decide (xy ≤ qd) = false := decide_eq_false hf
  have HM := Lh (show mulH 2 (xL, xy) (yL, yy) = ([], 1000000000000001) by
   unfold mulH
   rw [if_neg (by decide), if_pos rfl]
   show ([], if xy ≤ MX / yy then xy * yy else MX + 1) = _
   rw [if_neg (by show ¬ xy ≤ 1000000000000000 / yy; omega)]
   rfl)
  clear HDv hqd hq0 hq1 hyp hf
  as_aux_lemma =>
   go_upto_region 1 with fail
   refine Hg (fun w' => Gr w3 w') 11 ?_
   have hS : Gr w3 w3.drew := (Gr.refl w3).drew
   obtain ⟨wU, hw9⟩ : ∃ W9, w3.drew = W9 := ⟨_, rfl⟩
   rw [hw9] at hS ⊢
   clear hw9
   refine H5 1 2 4 5 6 (c2 x0 y0) hS ?_
   refine Hq [0, 9] ?_
   refine Hc (fun K9 hK => ?_) (Hc (fun K9 hK => ?_) AllHIn.nil)
   ·obtain ⟨wy1, hY⟩ : ∃ W9, wU.alloc (.cells #[] 3) = W9 := ⟨_, rfl⟩
    go_simp
    try rw [hY]
    have gY : Gr wU wy1 := hY ▸ (Gr.refl wU).alloc _
    have H9 := Lh (hY ▸ OwnL.lit0 wU : OwnL wU wy1 (.slice (some ⟨wU.heap.size, 0, none⟩) 0 0) [])
    have HGb := Lh hS
    have hS : Gr w3 wy1 := hS.trans gY
    refine hK.out _ _ hS ?_
    clear hK K9 hY
    refine Hq [3, 9] ?_
    refine Hc (fun K9 hK => ?_) (Hc (fun K9 hK => ?_) AllHIn.nil)
    ·refine wpIn_cat_rd _ _ rfl _ [] xv rfl H9.out _ xn _ rfl (HXV.out _ hS) HK1.out ?_
     intro v3 wy2 h4 g4
     have H9 := Lh h4
     have hS : Gr w3 wy2 := HGb.out.trans h4.2
     clear h4 g4
     refine hK.out _ _ hS ?_
     clear hK K9
     refine Hq [7, 9] ?_
     refine Hc (fun K9 hK => ?_) (Hc (fun K9 hK => ?_) AllHIn.nil)
     ·refine wpIn_cat_rd _ _ rfl _ ([] ++ xv) (yv.drop 1) rfl H9.out _ (yn - 1) _ rfl (HYV.out _ hS) HK2.out ?_
      intro v7 wy3 h4 g4
      obtain ⟨b7, c7, rfl, _, _⟩ := h4.rd
      generalize hn7 : ([] ++ xv ++ yv.drop 1).length = n7 at *
      have H9 := Lh h4
      have hS : Gr w3 wy3 := HGb.out.trans h4.2
      clear h4 g4
      refine hK.out _ _ hS ?_
      clear hK K9
      refine H1 8 tv hS ?_
      refine Hr 9 rfl (fun K9 hK => ?_)
      obtain ⟨wy4, hY⟩ : ∃ W9, wy3.alloc (.cells #[.slice none 0 0, .slice none 0 0, .int .i64 0] 81) = W9 := ⟨_, rfl⟩
      go_simp
      try rw [hY]
      have gY : Gr wy3 wy4 := hY ▸ (Gr.refl wy3).alloc _
      have HBx := Lh (hY ▸ heap_alloc_new wy3 _ : BoxH wy4 wy3.heap.size)
      have HBz := Lh (hS.size : w3.heap.size ≤ wy3.heap.size)
      have H9 := Lh (H9.out.gr gY)
      have hS : Gr w3 wy4 := hS.trans gY
      generalize hbn : wy3.heap.size = bn at *
      clear hbn
      refine hK.out _ _ hS ?_
      clear hK K9 hY
      have H9 := Lh (H9.out.base HGb.out)
      have hne := HBx.out.ne H9.out
      obtain ⟨wE, hwE, gE, sE, n0, n1, n2⟩ := put3w HBx.out.st (.slice b7 n7 c7) (.slice none 0 0) (.int .i64 0)
      obtain ⟨⟨o0, o1, o2, x0, x1, x2⟩, f0, f1, f2⟩ := HBx.out.st
      have HE := Lh (OwnL.far3 H9.out HBz.out hne gE)
      refine Hr 10 rfl (fun K9 hK => ?_)
      go_simp
      try rw [hwE]
      refine hK.out _ _ HE.out.2 ?_
      clear hK K9 hS hwE f0 f1 f2 x0 x1 x2 gE
      refine Hd ?_
      obtain ⟨_, f0, f1, f2⟩ := sE
      obtain ⟨wF, hwF, gF, sF, m0, m1, m2⟩ := put1w ⟨⟨_, _, _, n0, n1, n2⟩, f0, f1, f2⟩ n0 n1 (.int .i64 1000000000000001)
      have HF := Lh (OwnL.far3 HE.out HBz.out hne gF)
      go_upto_region 7 with fail
      try rw [hwF]
      clear hwF n0 n1 n2 f0 f1 f2 gF
      obtain ⟨_, f0, f1, f2⟩ := sF
      have p2 := HF.out.2.cell PX.out
      have q2 := HF.out.2.cell PY.out
      refine Hg (fun w' => Gr wF w') 6 ?_
      have hS : Gr wF wF.drew := (Gr.refl wF).drew
      obtain ⟨wT, hw9⟩ : ∃ W9, wF.drew = W9 := ⟨_, rfl⟩
      rw [hw9] at hS ⊢
      clear hw9
      refine H5 0 1 2 3 4 (c2 p2 q2) hS ?_; refine H1 5 (c2 p2 q2) hS ?_
      refine Hd ?_
      have HT := Lh (HF.out.gr hS)
      have g0 := (Below.frozen hS (World.block_lt_of_cell? _ _ m0)).trans f0
      have g1 := (Below.frozen hS (World.block_lt_of_cell? _ _ m1)).trans f1
      have g2 := (Below.frozen hS (World.block_lt_of_cell? _ _ m2)).trans f2
      replace m0 := hS.cell m0
      replace m1 := hS.cell m1
      replace m2 := hS.cell m2
      have p3 := hS.cell p2
      have q3 := hS.cell q2
      clear hS f0 f1 f2 p2 q2
      obtain ⟨wL, hwL, gL, sL, r0, r1, r2⟩ := put3w (HZ.out.gr HT.out.2) (.slice b7 n7 c7) (.slice none 0 0) (.int .i64 (1000000000000001))
      obtain ⟨⟨oz0, oz1, oz2, xz0, xz1, xz2⟩, fz0, fz1, fz2⟩ := HZ.out.gr HT.out.2
      have HOw := Lh (HT.out.base HG3.out)
      have HOf := Lh (OwnL.far3 HOw.out (by rw [hbx]; exact HZb.out.1) (fun e => by have := (HT.out.1.lt _ e).1; have := HZb.out.2; omega) gL)
      go_wp2_with fail
      try rw [hwL]
      refine bodyPost_ret (v := .agg #[.slice b7 n7 c7, .slice none 0 0, .int .i64 (1000000000000001)]) (by simp [results, Tryz.results117, go_sem, r0, r1, r2]) rfl ?_
      obtain ⟨a9, c9, e9, hr9, ho9⟩ := HOf.out.rd
      rw [hn7] at e9 hr9 ho9
      cases e9
      rw [HM.out]
      exact ⟨_, _, _, rfl, rfl, HOf.out.2, by have := hr9; simpa using this, OwnL.old HOf.out hn7.symm⟩
     obtain ⟨wy5, hY⟩ : ∃ W9, wy2.alloc (.cells #[.slice none 0 0, .slice none 0 0, .int .i64 0] 81) = W9 := ⟨_, rfl⟩
     go_simp
     try rw [hY]
     have gY : Gr wy2 wy5 := hY ▸ (Gr.refl wy2).alloc _
     have HBx := Lh (hY ▸ heap_alloc_new wy2 _ : BoxH wy5 wy2.heap.size)
     have HBz := Lh (hS.size : w3.heap.size ≤ wy2.heap.size)
     have H9 := Lh (H9.out.gr gY)
     have hS : Gr w3 wy5 := hS.trans gY
     generalize hbn : wy2.heap.size = bn at *
     clear hbn
     refine hK.out _ _ hS ?_
     clear hK K9 hY
     refine Hr 7 rfl (fun K9 hK => ?_)
     refine wpIn_cat_rd _ _ rfl _ ([] ++ xv) (yv.drop 1) rfl H9.out _ (yn - 1) _ rfl (HYV.out _ hS) HK2.out ?_
     intro v7 wy6 h4 g4
     obtain ⟨b7, c7, rfl, _, _⟩ := h4.rd
     generalize hn7 : ([] ++ xv ++ yv.drop 1).length = n7 at *
     have HBx := Lh (HBx.out.grown H9.out g4)
     have H9 := Lh h4
     have hS : Gr w3 wy6 := HGb.out.trans h4.2
     clear h4 g4
     refine hK.out _ _ hS ?_
     clear hK K9
     refine H1 8 tv hS ?_
     have H9 := Lh (H9.out.base HGb.out)
     have hne := HBx.out.ne H9.out
     obtain ⟨wE, hwE, gE, sE, n0, n1, n2⟩ := put3w HBx.out.st (.slice b7 n7 c7) (.slice none 0 0) (.int .i64 0)
     obtain ⟨⟨o0, o1, o2, x0, x1, x2⟩, f0, f1, f2⟩ := HBx.out.st
     have HE := Lh (OwnL.far3 H9.out HBz.out hne gE)
     refine Hr 10 rfl (fun K9 hK => ?_)
     go_simp
     try rw [hwE]
     refine hK.out _ _ HE.out.2 ?_
     clear hK K9 hS hwE f0 f1 f2 x0 x1 x2 gE
     refine Hd ?_
     obtain ⟨_, f0, f1, f2⟩ := sE
     obtain ⟨wF, hwF, gF, sF, m0, m1, m2⟩ := put1w ⟨⟨_, _, _, n0, n1, n2⟩, f0, f1, f2⟩ n0 n1 (.int .i64 1000000000000001)
     have HF := Lh (OwnL.far3 HE.out HBz.out hne gF)
     go_upto_region 7 with fail
     try rw [hwF]
     clear hwF n0 n1 n2 f0 f1 f2 gF
     obtain ⟨_, f0, f1, f2⟩ := sF
     have p2 := HF.out.2.cell PX.out
     have q2 := HF.out.2.cell PY.out
     refine Hg (fun w' => Gr wF w') 6 ?_
     have hS : Gr wF wF.drew := (Gr.refl wF).drew
     obtain ⟨wT, hw9⟩ : ∃ W9, wF.drew = W9 := ⟨_, rfl⟩
     rw [hw9] at hS ⊢
     clear hw9
     refine H5 0 1 2 3 4 (c2 p2 q2) hS ?_; refine H1 5 (c2 p2 q2) hS ?_
     refine Hd ?_
     have HT := Lh (HF.out.gr hS)
     have g0 := (Below.frozen hS (World.block_lt_of_cell? _ _ m0)).trans f0
     have g1 := (Below.frozen hS (World.block_lt_of_cell? _ _ m1)).trans f1
     have g2 := (Below.frozen hS (World.block_lt_of_cell? _ _ m2)).trans f2
     replace m0 := hS.cell m0
     replace m1 := hS.cell m1
     replace m2 := hS.cell m2
     have p3 := hS.cell p2
     have q3 := hS.cell q2
     clear hS f0 f1 f2 p2 q2
     obtain ⟨wL, hwL, gL, sL, r0, r1, r2⟩ := put3w (HZ.out.gr HT.out.2) (.slice b7 n7 c7) (.slice none 0 0) (.int .i64 (1000000000000001))
     obtain ⟨⟨oz0, oz1, oz2, xz0, xz1, xz2⟩, fz0, fz1, fz2⟩ := HZ.out.gr HT.out.2
     have HOw := Lh (HT.out.base HG3.out)
     have HOf := Lh (OwnL.far3 HOw.out (by rw [hbx]; exact HZb.out.1) (fun e => by have := (HT.out.1.lt _ e).1; have := HZb.out.2; omega) gL)
     go_wp2_with fail
     try rw [hwL]
     refine bodyPost_ret (v := .agg #[.slice b7 n7 c7, .slice none 0 0, .int .i64 (1000000000000001)]) (by simp [results, Tryz.results117, go_sem, r0, r1, r2]) rfl ?_
     obtain ⟨a9, c9, e9, hr9, ho9⟩ := HOf.out.rd
     rw [hn7] at e9 hr9 ho9
     cases e9
     rw [HM.out]
     exact ⟨_, _, _, rfl, rfl, HOf.out.2, by have := hr9; simpa using this, OwnL.old HOf.out hn7.symm⟩
    obtain ⟨wy7, hY⟩ : ∃ W9, wy1.alloc (.cells #[.slice none 0 0, .slice none 0 0, .int .i64 0] 81) = W9 := ⟨_, rfl⟩
    go_simp
    try rw [hY]
    have gY : Gr wy1 wy7 := hY ▸ (Gr.refl wy1).alloc _
    have HBx := Lh (hY ▸ heap_alloc_new wy1 _ : BoxH wy7 wy1.heap.size)
    have HBz := Lh (hS.size : w3.heap.size ≤ wy1.heap.size)
    have H9 := Lh (H9.out.gr gY)
    have hS : Gr w3 wy7 := hS.trans gY
    generalize hbn : wy1.heap.size = bn at *
    clear hbn
    refine hK.out _ _ hS ?_
    clear hK K9 hY
    refine Hr 3 rfl (fun K9 hK => ?_)
    refine wpIn_cat_rd _ _ rfl _ [] xv rfl H9.out _ xn _ rfl (HXV.out _ hS) HK1.out ?_
    intro v3 wy8 h4 g4
    have HBx := Lh (HBx.out.grown H9.out g4)
    have H9 := Lh h4
    have hS : Gr w3 wy8 := HGb.out.trans h4.2
    clear h4 g4
    refine hK.out _ _ hS ?_
    clear hK K9
    refine Hr 7 rfl (fun K9 hK => ?_)
    refine wpIn_cat_rd _ _ rfl _ ([] ++ xv) (yv.drop 1) rfl H9.out _ (yn - 1) _ rfl (HYV.out _ hS) HK2.out ?_
    intro v7 wy9 h4 g4
    obtain ⟨b7, c7, rfl, _, _⟩ := h4.rd
    generalize hn7 : ([] ++ xv ++ yv.drop 1).length = n7 at *
    have HBx := Lh (HBx.out.grown H9.out g4)
    have H9 := Lh h4
    have hS : Gr w3 wy9 := HGb.out.trans h4.2
    clear h4 g4
    refine hK.out _ _ hS ?_
    clear hK K9
    refine H1 8 tv hS ?_
    have H9 := Lh (H9.out.base HGb.out)
    have hne := HBx.out.ne H9.out
    obtain ⟨wE, hwE, gE, sE, n0, n1, n2⟩ := put3w HBx.out.st (.slice b7 n7 c7) (.slice none 0 0) (.int .i64 0)
    obtain ⟨⟨o0, o1, o2, x0, x1, x2⟩, f0, f1, f2⟩ := HBx.out.st
    have HE := Lh (OwnL.far3 H9.out HBz.out hne gE)
    refine Hr 10 rfl (fun K9 hK => ?_)
    go_simp
    try rw [hwE]
    refine hK.out _ _ HE.out.2 ?_
    clear hK K9 hS hwE f0 f1 f2 x0 x1 x2 gE
    refine Hd ?_
    obtain ⟨_, f0, f1, f2⟩ := sE
    obtain ⟨wF, hwF, gF, sF, m0, m1, m2⟩ := put1w ⟨⟨_, _, _, n0, n1, n2⟩, f0, f1, f2⟩ n0 n1 (.int .i64 1000000000000001)
    have HF := Lh (OwnL.far3 HE.out HBz.out hne gF)
    go_upto_region 7 with fail
    try rw [hwF]
    clear hwF n0 n1 n2 f0 f1 f2 gF
    obtain ⟨_, f0, f1, f2⟩ := sF
    have p2 := HF.out.2.cell PX.out
    have q2 := HF.out.2.cell PY.out
    refine Hg (fun w' => Gr wF w') 6 ?_
    have hS : Gr wF wF.drew := (Gr.refl wF).drew
    obtain ⟨wT, hw9⟩ : ∃ W9, wF.drew = W9 := ⟨_, rfl⟩
    rw [hw9] at hS ⊢
    clear hw9
    refine H5 0 1 2 3 4 (c2 p2 q2) hS ?_; refine H1 5 (c2 p2 q2) hS ?_
    refine Hd ?_
    have HT := Lh (HF.out.gr hS)
    have g0 := (Below.frozen hS (World.block_lt_of_cell? _ _ m0)).trans f0
    have g1 := (Below.frozen hS (World.block_lt_of_cell? _ _ m1)).trans f1
    have g2 := (Below.frozen hS (World.block_lt_of_cell? _ _ m2)).trans f2
    replace m0 := hS.cell m0
    replace m1 := hS.cell m1
    replace m2 := hS.cell m2
    have p3 := hS.cell p2
    have q3 := hS.cell q2
    clear hS f0 f1 f2 p2 q2
    obtain ⟨wL, hwL, gL, sL, r0, r1, r2⟩ := put3w (HZ.out.gr HT.out.2) (.slice b7 n7 c7) (.slice none 0 0) (.int .i64 (1000000000000001))
    obtain ⟨⟨oz0, oz1, oz2, xz0, xz1, xz2⟩, fz0, fz1, fz2⟩ := HZ.out.gr HT.out.2
    have HOw := Lh (HT.out.base HG3.out)
    have HOf := Lh (OwnL.far3 HOw.out (by rw [hbx]; exact HZb.out.1) (fun e => by have := (HT.out.1.lt _ e).1; have := HZb.out.2; omega) gL)
    go_wp2_with fail
    try rw [hwL]
    refine bodyPost_ret (v := .agg #[.slice b7 n7 c7, .slice none 0 0, .int .i64 (1000000000000001)]) (by simp [results, Tryz.results117, go_sem, r0, r1, r2]) rfl ?_
    obtain ⟨a9, c9, e9, hr9, ho9⟩ := HOf.out.rd
    rw [hn7] at e9 hr9 ho9
    cases e9
    rw [HM.out]
    exact ⟨_, _, _, rfl, rfl, HOf.out.2, by have := hr9; simpa using this, OwnL.old HOf.out hn7.symm⟩
   obtain ⟨wy10, hY⟩ : ∃ W9, wU.alloc (.cells #[.slice none 0 0, .slice none 0 0, .int .i64 0] 81) = W9 := ⟨_, rfl⟩
   go_simp
   try rw [hY]
   have gY : Gr wU wy10 := hY ▸ (Gr.refl wU).alloc _
   have HBx := Lh (hY ▸ heap_alloc_new wU _ : BoxH wy10 wU.heap.size)
   have HBz := Lh (hS.size : w3.heap.size ≤ wU.heap.size)
   have hS : Gr w3 wy10 := hS.trans gY
   generalize hbn : wU.heap.size = bn at *
   clear hbn
   refine hK.out _ _ hS ?_
   clear hK K9 hY
   refine Hr 0 rfl (fun K9 hK => ?_)
   obtain ⟨wy11, hY⟩ : ∃ W9, wy10.alloc (.cells #[] 3) = W9 := ⟨_, rfl⟩
   go_simp
   try rw [hY]
   have gY : Gr wy10 wy11 := hY ▸ (Gr.refl wy10).alloc _
   have H9 := Lh (hY ▸ OwnL.lit0 wy10 : OwnL wy10 wy11 (.slice (some ⟨wy10.heap.size, 0, none⟩) 0 0) [])
   have HGb := Lh hS
   have HBx := Lh (HBx.out.gr gY)
   have hS : Gr w3 wy11 := hS.trans gY
   refine hK.out _ _ hS ?_
   clear hK K9 hY
   refine Hr 3 rfl (fun K9 hK => ?_)
   refine wpIn_cat_rd _ _ rfl _ [] xv rfl H9.out _ xn _ rfl (HXV.out _ hS) HK1.out ?_
   intro v3 wy12 h4 g4
   have HBx := Lh (HBx.out.grown H9.out g4)
   have H9 := Lh h4
   have hS : Gr w3 wy12 := HGb.out.trans h4.2
   clear h4 g4
   refine hK.out _ _ hS ?_
   clear hK K9
   refine Hr 7 rfl (fun K9 hK => ?_)
   refine wpIn_cat_rd _ _ rfl _ ([] ++ xv) (yv.drop 1) rfl H9.out _ (yn - 1) _ rfl (HYV.out _ hS) HK2.out ?_
   intro v7 wy13 h4 g4
   obtain ⟨b7, c7, rfl, _, _⟩ := h4.rd
   generalize hn7 : ([] ++ xv ++ yv.drop 1).length = n7 at *
   have HBx := Lh (HBx.out.grown H9.out g4)
   have H9 := Lh h4
   have hS : Gr w3 wy13 := HGb.out.trans h4.2
   clear h4 g4
   refine hK.out _ _ hS ?_
   clear hK K9
   refine H1 8 tv hS ?_
   have H9 := Lh (H9.out.base HGb.out)
   have hne := HBx.out.ne H9.out
   obtain ⟨wE, hwE, gE, sE, n0, n1, n2⟩ := put3w HBx.out.st (.slice b7 n7 c7) (.slice none 0 0) (.int .i64 0)
   obtain ⟨⟨o0, o1, o2, x0, x1, x2⟩, f0, f1, f2⟩ := HBx.out.st
   have HE := Lh (OwnL.far3 H9.out HBz.out hne gE)
   refine Hr 10 rfl (fun K9 hK => ?_)
   go_simp
   try rw [hwE]
   refine hK.out _ _ HE.out.2 ?_
   clear hK K9 hS hwE f0 f1 f2 x0 x1 x2 gE
   refine Hd ?_
   obtain ⟨_, f0, f1, f2⟩ := sE
   obtain ⟨wF, hwF, gF, sF, m0, m1, m2⟩ := put1w ⟨⟨_, _, _, n0, n1, n2⟩, f0, f1, f2⟩ n0 n1 (.int .i64 1000000000000001)
   have HF := Lh (OwnL.far3 HE.out HBz.out hne gF)
   go_upto_region 7 with fail
   try rw [hwF]
   clear hwF n0 n1 n2 f0 f1 f2 gF
   obtain ⟨_, f0, f1, f2⟩ := sF
   have p2 := HF.out.2.cell PX.out
   have q2 := HF.out.2.cell PY.out
   refine Hg (fun w' => Gr wF w') 6 ?_
   have hS : Gr wF wF.drew := (Gr.refl wF).drew
   obtain ⟨wT, hw9⟩ : ∃ W9, wF.drew = W9 := ⟨_, rfl⟩
   rw [hw9] at hS ⊢
   clear hw9
   refine H5 0 1 2 3 4 (c2 p2 q2) hS ?_; refine H1 5 (c2 p2 q2) hS ?_
   refine Hd ?_
   have HT := Lh (HF.out.gr hS)
   have g0 := (Below.frozen hS (World.block_lt_of_cell? _ _ m0)).trans f0
   have g1 := (Below.frozen hS (World.block_lt_of_cell? _ _ m1)).trans f1
   have g2 := (Below.frozen hS (World.block_lt_of_cell? _ _ m2)).trans f2
   replace m0 := hS.cell m0
   replace m1 := hS.cell m1
   replace m2 := hS.cell m2
   have p3 := hS.cell p2
   have q3 := hS.cell q2
   clear hS f0 f1 f2 p2 q2
   obtain ⟨wL, hwL, gL, sL, r0, r1, r2⟩ := put3w (HZ.out.gr HT.out.2) (.slice b7 n7 c7) (.slice none 0 0) (.int .i64 (1000000000000001))
   obtain ⟨⟨oz0, oz1, oz2, xz0, xz1, xz2⟩, fz0, fz1, fz2⟩ := HZ.out.gr HT.out.2
   have HOw := Lh (HT.out.base HG3.out)
   have HOf := Lh (OwnL.far3 HOw.out (by rw [hbx]; exact HZb.out.1) (fun e => by have := (HT.out.1.lt _ e).1; have := HZb.out.2; omega) gL)
   go_wp2_with fail
   try rw [hwL]
   refine bodyPost_ret (v := .agg #[.slice b7 n7 c7, .slice none 0 0, .int .i64 (1000000000000001)]) (by simp [results, Tryz.results117, go_sem, r0, r1, r2]) rfl ?_
   obtain ⟨a9, c9, e9, hr9, ho9⟩ := HOf.out.rd
   rw [hn7] at e9 hr9 ho9
   cases e9
   rw [HM.out]
   exact ⟨_, _, _, rfl, rfl, HOf.out.2, by have := hr9; simpa using this, OwnL.old HOf.out hn7.symm⟩
 obtain ⟨pr, hpr⟩ : ∃ pr, xy + yy = pr := ⟨_, rfl⟩
 have e3 : wrap64 (xy + yy) = pr := (IntWalk.wrap64_in _ (by have := HB.out; omega)).trans hpr
 have e4 : IntKind.i64.wrap (xy + yy) = pr := (IntWalk.i64_in _ (by have := HB.out; omega)).trans hpr
 have HM := Lh (show mulH 3 (xL, xy) (yL, yy) = ([], pr) by
  unfold mulH
  rw [if_neg (by decide), if_neg (by decide), ← hpr])
 clear hpr
 as_aux_lemma =>
  go_upto_region 1 with fail
  refine Hg (fun w' => Gr w3 w') 11 ?_
  have hS : Gr w3 w3.drew := (Gr.refl w3).drew
  obtain ⟨wU, hw9⟩ : ∃ W9, w3.drew = W9 := ⟨_, rfl⟩
  rw [hw9] at hS ⊢
  clear hw9
  refine H5 1 2 4 5 6 (c2 x0 y0) hS ?_
  refine Hq [0, 9] ?_
  refine Hc (fun K9 hK => ?_) (Hc (fun K9 hK => ?_) AllHIn.nil)
  ·obtain ⟨wy1, hY⟩ : ∃ W9, wU.alloc (.cells #[] 3) = W9 := ⟨_, rfl⟩
   go_simp
   try rw [hY]
   have gY : Gr wU wy1 := hY ▸ (Gr.refl wU).alloc _
   have H9 := Lh (hY ▸ OwnL.lit0 wU : OwnL wU wy1 (.slice (some ⟨wU.heap.size, 0, none⟩) 0 0) [])
   have HGb := Lh hS
   have hS : Gr w3 wy1 := hS.trans gY
   refine hK.out _ _ hS ?_
   clear hK K9 hY
   refine Hq [3, 9] ?_
   refine Hc (fun K9 hK => ?_) (Hc (fun K9 hK => ?_) AllHIn.nil)
   ·refine wpIn_cat_rd _ _ rfl _ [] xv rfl H9.out _ xn _ rfl (HXV.out _ hS) HK1.out ?_
    intro v3 wy2 h4 g4
    have H9 := Lh h4
    have hS : Gr w3 wy2 := HGb.out.trans h4.2
    clear h4 g4
    refine hK.out _ _ hS ?_
    clear hK K9
    refine Hq [7, 9] ?_
    refine Hc (fun K9 hK => ?_) (Hc (fun K9 hK => ?_) AllHIn.nil)
    ·refine wpIn_cat_rd _ _ rfl _ ([] ++ xv) (yv.drop 1) rfl H9.out _ (yn - 1) _ rfl (HYV.out _ hS) HK2.out ?_
     intro v7 wy3 h4 g4
     obtain ⟨b7, c7, rfl, _, _⟩ := h4.rd
     generalize hn7 : ([] ++ xv ++ yv.drop 1).length = n7 at *
     have H9 := Lh h4
     have hS : Gr w3 wy3 := HGb.out.trans h4.2
     clear h4 g4
     refine hK.out _ _ hS ?_
     clear hK K9
     refine H1 8 tv hS ?_
     refine Hr 9 rfl (fun K9 hK => ?_)
     obtain ⟨wy4, hY⟩ : ∃ W9, wy3.alloc (.cells #[.slice none 0 0, .slice none 0 0, .int .i64 0] 81) = W9 := ⟨_, rfl⟩
     go_simp
     try rw [hY]
     have gY : Gr wy3 wy4 := hY ▸ (Gr.refl wy3).alloc _
     have HBx := Lh (hY ▸ heap_alloc_new wy3 _ : BoxH wy4 wy3.heap.size)
     have HBz := Lh (hS.size : w3.heap.size ≤ wy3.heap.size)
     have H9 := Lh (H9.out.gr gY)
     have hS : Gr w3 wy4 := hS.trans gY
     generalize hbn : wy3.heap.size = bn at *
     clear hbn
     refine hK.out _ _ hS ?_
     clear hK K9 hY
     have H9 := Lh (H9.out.base HGb.out)
     have hne := HBx.out.ne H9.out
     obtain ⟨wE, hwE, gE, sE, n0, n1, n2⟩ := put3w HBx.out.st (.slice b7 n7 c7) (.slice none 0 0) (.int .i64 0)
     obtain ⟨⟨o0, o1, o2, x0, x1, x2⟩, f0, f1, f2⟩ := HBx.out.st
     have HE := Lh (OwnL.far3 H9.out HBz.out hne gE)
     refine Hr 10 rfl (fun K9 hK => ?_)
     go_simp
     try rw [hwE]
     refine hK.out _ _ HE.out.2 ?_
     clear hK K9 hS hwE f0 f1 f2 x0 x1 x2 gE
     refine Hd ?_
     obtain ⟨_, f0, f1, f2⟩ := sE
     have p2 := HE.out.2.cell PX.out
     have q2 := HE.out.2.cell PY.out
     obtain ⟨wP, hwP, gP, sP, k0, k1, k2⟩ := put1w ⟨⟨_, _, _, n0, n1, n2⟩, f0, f1, f2⟩ n0 n1 (.int .i64 pr)
     have HP := Lh (OwnL.far3 HE.out HBz.out hne gP)
     clear gP
     obtain ⟨wL, hwL, gL, sL, r0, r1, r2⟩ := put3w (HZ.out.gr HP.out.2) (.slice b7 n7 c7) (.slice none 0 0) (.int .i64 (pr))
     obtain ⟨⟨oz0, oz1, oz2, xz0, xz1, xz2⟩, fz0, fz1, fz2⟩ := HZ.out.gr HP.out.2
     have HOw := Lh (HP.out.base HG3.out)
     have HOf := Lh (OwnL.far3 HOw.out (by rw [hbx]; exact HZb.out.1) (fun e => by have := (HP.out.1.lt _ e).1; have := HZb.out.2; omega) gL)
     go_wp2_with fail
     try rw [hwL]
     refine bodyPost_ret (v := .agg #[.slice b7 n7 c7, .slice none 0 0, .int .i64 (pr)]) (by simp [results, Tryz.results117, go_sem, r0, r1, r2]) rfl ?_
     obtain ⟨a9, c9, e9, hr9, ho9⟩ := HOf.out.rd
     rw [hn7] at e9 hr9 ho9
     cases e9
     rw [HM.out]
     exact ⟨_, _, _, rfl, rfl, HOf.out.2, by have := hr9; simpa using this, OwnL.old HOf.out hn7.symm⟩
    obtain ⟨wy5, hY⟩ : ∃ W9, wy2.alloc (.cells #[.slice none 0 0, .slice none 0 0, .int .i64 0] 81) = W9 := ⟨_, rfl⟩
    go_simp
    try rw [hY]
    have gY : Gr wy2 wy5 := hY ▸ (Gr.refl wy2).alloc _
    have HBx := Lh (hY ▸ heap_alloc_new wy2 _ : BoxH wy5 wy2.heap.size)
    have HBz := Lh (hS.size : w3.heap.size ≤ wy2.heap.size)
    have H9 := Lh (H9.out.gr gY)
    have hS : Gr w3 wy5 := hS.trans gY
    generalize hbn : wy2.heap.size = bn at *
    clear hbn
    refine hK.out _ _ hS ?_
    clear hK K9 hY
    refine Hr 7 rfl (fun K9 hK => ?_)
    refine wpIn_cat_rd _ _ rfl _ ([] ++ xv) (yv.drop 1) rfl H9.out _ (yn - 1) _ rfl (HYV.out _ hS) HK2.out ?_
    intro v7 wy6 h4 g4
    obtain ⟨b7, c7, rfl, _, _⟩ := h4.rd
    generalize hn7 : ([] ++ xv ++ yv.drop 1).length = n7 at *
    have HBx := Lh (HBx.out.grown H9.out g4)
    have H9 := Lh h4
    have hS : Gr w3 wy6 := HGb.out.trans h4.2
    clear h4 g4
    refine hK.out _ _ hS ?_
    clear hK K9
    refine H1 8 tv hS ?_
    have H9 := Lh (H9.out.base HGb.out)
    have hne := HBx.out.ne H9.out
    obtain ⟨wE, hwE, gE, sE, n0, n1, n2⟩ := put3w HBx.out.st (.slice b7 n7 c7) (.slice none 0 0) (.int .i64 0)
    obtain ⟨⟨o0, o1, o2, x0, x1, x2⟩, f0, f1, f2⟩ := HBx.out.st
    have HE := Lh (OwnL.far3 H9.out HBz.out hne gE)
    refine Hr 10 rfl (fun K9 hK => ?_)
    go_simp
    try rw [hwE]
    refine hK.out _ _ HE.out.2 ?_
    clear hK K9 hS hwE f0 f1 f2 x0 x1 x2 gE
    refine Hd ?_
    obtain ⟨_, f0, f1, f2⟩ := sE
    have p2 := HE.out.2.cell PX.out
    have q2 := HE.out.2.cell PY.out
    obtain ⟨wP, hwP, gP, sP, k0, k1, k2⟩ := put1w ⟨⟨_, _, _, n0, n1, n2⟩, f0, f1, f2⟩ n0 n1 (.int .i64 pr)
    have HP := Lh (OwnL.far3 HE.out HBz.out hne gP)
    clear gP
    obtain ⟨wL, hwL, gL, sL, r0, r1, r2⟩ := put3w (HZ.out.gr HP.out.2) (.slice b7 n7 c7) (.slice none 0 0) (.int .i64 (pr))
    obtain ⟨⟨oz0, oz1, oz2, xz0, xz1, xz2⟩, fz0, fz1, fz2⟩ := HZ.out.gr HP.out.2
    have HOw := Lh (HP.out.base HG3.out)
    have HOf := Lh (OwnL.far3 HOw.out (by rw [hbx]; exact HZb.out.1) (fun e => by have := (HP.out.1.lt _ e).1; have := HZb.out.2; omega) gL)
    go_wp2_with fail
    try rw [hwL]
    refine bodyPost_ret (v := .agg #[.slice b7 n7 c7, .slice none 0 0, .int .i64 (pr)]) (by simp [results, Tryz.results117, go_sem, r0, r1, r2]) rfl ?_
    obtain ⟨a9, c9, e9, hr9, ho9⟩ := HOf.out.rd
    rw [hn7] at e9 hr9 ho9
    cases e9
    rw [HM.out]
    exact ⟨_, _, _, rfl, rfl, HOf.out.2, by have := hr9; simpa using this, OwnL.old HOf.out hn7.symm⟩
   obtain ⟨wy7, hY⟩ : ∃ W9, wy1.alloc (.cells #[.slice none 0 0, .slice none 0 0, .int .i64 0] 81) = W9 := ⟨_, rfl⟩
   go_simp
   try rw [hY]
   have gY : Gr wy1 wy7 := hY ▸ (Gr.refl wy1).alloc _
   have HBx := Lh (hY ▸ heap_alloc_new wy1 _ : BoxH wy7 wy1.heap.size)
   have HBz := Lh (hS.size : w3.heap.size ≤ wy1.heap.size)
   have H9 := Lh (H9.out.gr gY)
   have hS : Gr w3 wy7 := hS.trans gY
   generalize hbn : wy1.heap.size = bn at *
   clear hbn
   refine hK.out _ _ hS ?_
   clear hK K9 hY
   refine Hr 3 rfl (fun K9 hK => ?_)
   refine wpIn_cat_rd _ _ rfl _ [] xv rfl H9.out _ xn _ rfl (HXV.out _ hS) HK1.out ?_
   intro v3 wy8 h4 g4
   have HBx := Lh (HBx.out.grown H9.out g4)
   have H9 := Lh h4
   have hS : Gr w3 wy8 := HGb.out.trans h4.2
   clear h4 g4
   refine hK.out _ _ hS ?_
   clear hK K9
   refine Hr 7 rfl (fun K9 hK => ?_)
   refine wpIn_cat_rd _ _ rfl _ ([] ++ xv) (yv.drop 1) rfl H9.out _ (yn - 1) _ rfl (HYV.out _ hS) HK2.out ?_
   intro v7 wy9 h4 g4
   obtain ⟨b7, c7, rfl, _, _⟩ := h4.rd
   generalize hn7 : ([] ++ xv ++ yv.drop 1).length = n7 at *
   have HBx := Lh (HBx.out.grown H9.out g4)
   have H9 := Lh h4
   have hS : Gr w3 wy9 := HGb.out.trans h4.2
   clear h4 g4
   refine hK.out _ _ hS ?_
   clear hK K9
   refine H1 8 tv hS ?_
   have H9 := Lh (H9.out.base HGb.out)
   have hne := HBx.out.ne H9.out
   obtain ⟨wE, hwE, gE, sE, n0, n1, n2⟩ := put3w HBx.out.st (.slice b7 n7 c7) (.slice none 0 0) (.int .i64 0)
   obtain ⟨⟨o0, o1, o2, x0, x1, x2⟩, f0, f1, f2⟩ := HBx.out.st
   have HE := Lh (OwnL.far3 H9.out HBz.out hne gE)
   refine Hr 10 rfl (fun K9 hK => ?_)
   go_simp
   try rw [hwE]
   refine hK.out _ _ HE.out.2 ?_
   clear hK K9 hS hwE f0 f1 f2 x0 x1 x2 gE
   refine Hd ?_
   obtain ⟨_, f0, f1, f2⟩ := sE
   have p2 := HE.out.2.cell PX.out
   have q2 := HE.out.2.cell PY.out
   obtain ⟨wP, hwP, gP, sP, k0, k1, k2⟩ := put1w ⟨⟨_, _, _, n0, n1, n2⟩, f0, f1, f2⟩ n0 n1 (.int .i64 pr)
   have HP := Lh (OwnL.far3 HE.out HBz.out hne gP)
   clear gP
   obtain ⟨wL, hwL, gL, sL, r0, r1, r2⟩ := put3w (HZ.out.gr HP.out.2) (.slice b7 n7 c7) (.slice none 0 0) (.int .i64 (pr))
   obtain ⟨⟨oz0, oz1, oz2, xz0, xz1, xz2⟩, fz0, fz1, fz2⟩ := HZ.out.gr HP.out.2
   have HOw := Lh (HP.out.base HG3.out)
   have HOf := Lh (OwnL.far3 HOw.out (by rw [hbx]; exact HZb.out.1) (fun e => by have := (HP.out.1.lt _ e).1; have := HZb.out.2; omega) gL)
   go_wp2_with fail
   try rw [hwL]
   refine bodyPost_ret (v := .agg #[.slice b7 n7 c7, .slice none 0 0, .int .i64 (pr)]) (by simp [results, Tryz.results117, go_sem, r0, r1, r2]) rfl ?_
   obtain ⟨a9, c9, e9, hr9, ho9⟩ := HOf.out.rd
   rw [hn7] at e9 hr9 ho9
   cases e9
   rw [HM.out]
   exact ⟨_, _, _, rfl, rfl, HOf.out.2, by have := hr9; simpa using this, OwnL.old HOf.out hn7.symm⟩
  obtain ⟨wy10, hY⟩ : ∃ W9, wU.alloc (.cells #[.slice none 0 0, .slice none 0 0, .int .i64 0] 81) = W9 := ⟨_, rfl⟩
  go_simp
  try rw [hY]
  have gY : Gr wU wy10 := hY ▸ (Gr.refl wU).alloc _
  have HBx := Lh (hY ▸ heap_alloc_new wU _ : BoxH wy10 wU.heap.size)
  have HBz := Lh (hS.size : w3.heap.size ≤ wU.heap.size)
  have hS : Gr w3 wy10 := hS.trans gY
  generalize hbn : wU.heap.size = bn at *
  clear hbn
  refine hK.out _ _ hS ?_
  clear hK K9 hY
  refine Hr 0 rfl (fun K9 hK => ?_)
  obtain ⟨wy11, hY⟩ : ∃ W9, wy10.alloc (.cells #[] 3) = W9 := ⟨_, rfl⟩
  go_simp
  try rw [hY]
  have gY : Gr wy10 wy11 := hY ▸ (Gr.refl wy10).alloc _
  have H9 := Lh (hY ▸ OwnL.lit0 wy10 : OwnL wy10 wy11 (.slice (some ⟨wy10.heap.size, 0, none⟩) 0 0) [])
  have HGb := Lh hS
  have HBx := Lh (HBx.out.gr gY)
  have hS : Gr w3 wy11 := hS.trans gY
  refine hK.out _ _ hS ?_
  clear hK K9 hY
  refine Hr 3 rfl (fun K9 hK => ?_)
  refine wpIn_cat_rd _ _ rfl _ [] xv rfl H9.out _ xn _ rfl (HXV.out _ hS) HK1.out ?_
  intro v3 wy12 h4 g4
  have HBx := Lh (HBx.out.grown H9.out g4)
  have H9 := Lh h4
  have hS : Gr w3 wy12 := HGb.out.trans h4.2
  clear h4 g4
  refine hK.out _ _ hS ?_
  clear hK K9
  refine Hr 7 rfl (fun K9 hK => ?_)
  refine wpIn_cat_rd _ _ rfl _ ([] ++ xv) (yv.drop 1) rfl H9.out _ (yn - 1) _ rfl (HYV.out _ hS) HK2.out ?_
  intro v7 wy13 h4 g4
  obtain ⟨b7, c7, rfl, _, _⟩ := h4.rd
  generalize hn7 : ([] ++ xv ++ yv.drop 1).length = n7 at *
  have HBx := Lh (HBx.out.grown H9.out g4)
  have H9 := Lh h4
  have hS : Gr w3 wy13 := HGb.out.trans h4.2
  clear h4 g4
  refine hK.out _ _ hS ?_
  clear hK K9
  refine H1 8 tv hS ?_
  have H9 := Lh (H9.out.base HGb.out)
  have hne := HBx.out.ne H9.out
  obtain ⟨wE, hwE, gE, sE, n0, n1, n2⟩ := put3w HBx.out.st (.slice b7 n7 c7) (.slice none 0 0) (.int .i64 0)
  obtain ⟨⟨o0, o1, o2, x0, x1, x2⟩, f0, f1, f2⟩ := HBx.out.st
  have HE := Lh (OwnL.far3 H9.out HBz.out hne gE)
  refine Hr 10 rfl (fun K9 hK => ?_)
  go_simp
  try rw [hwE]
  refine hK.out _ _ HE.out.2 ?_
  clear hK K9 hS hwE f0 f1 f2 x0 x1 x2 gE
  refine Hd ?_
  obtain ⟨_, f0, f1, f2⟩ := sE
  have p2 := HE.out.2.cell PX.out
  have q2 := HE.out.2.cell PY.out
  obtain ⟨wP, hwP, gP, sP, k0, k1, k2⟩ := put1w ⟨⟨_, _, _, n0, n1, n2⟩, f0, f1, f2⟩ n0 n1 (.int .i64 pr)
  have HP := Lh (OwnL.far3 HE.out HBz.out hne gP)
  clear gP
  obtain ⟨wL, hwL, gL, sL, r0, r1, r2⟩ := put3w (HZ.out.gr HP.out.2) (.slice b7 n7 c7) (.slice none 0 0) (.int .i64 (pr))
  obtain ⟨⟨oz0, oz1, oz2, xz0, xz1, xz2⟩, fz0, fz1, fz2⟩ := HZ.out.gr HP.out.2
  have HOw := Lh (HP.out.base HG3.out)
  have HOf := Lh (OwnL.far3 HOw.out (by rw [hbx]; exact HZb.out.1) (fun e => by have := (HP.out.1.lt _ e).1; have := HZb.out.2; omega) gL)
  go_wp2_with fail
  try rw [hwL]
  refine bodyPost_ret (v := .agg #[.slice b7 n7 c7, .slice none 0 0, .int .i64 (pr)]) (by simp [results, Tryz.results117, go_sem, r0, r1, r2]) rfl ?_
  obtain ⟨a9, c9, e9, hr9, ho9⟩ := HOf.out.rd
  rw [hn7] at e9 hr9 ho9
  cases e9
  rw [HM.out]
  exact ⟨_, _, _, rfl, rfl, HOf.out.2, by have := hr9; simpa using this, OwnL.old HOf.out hn7.symm⟩
end Go.Proofs.YtehdemcfeoiecaaGreatDoor
