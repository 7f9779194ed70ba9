import Derived.Test.YtehdemcfeoiecaaGreatDoorA05
set_option maxHeartbeats 64000000
set_option maxRecDepth 100000
namespace Go.Proofs.YtehdemcfeoiecaaGreatDoor
open Go.RowKit Go.Firn Go.Firn.Tb RE
def RetRt (w0 : World) (v : Value) (T : Tbl (SL × Int)) (w : World) (e : Ending) (w' : World) : Prop := ∃ v' raw', e = .returned v' ∧ OwnR w0 w' v' raw' ∧ Dat w0 w' raw' T ∧ w.grownBy w' v.ownBlock ∧ (v'.ownBlock = v.ownBlock ∨ ∀ k, v'.ownBlock = some k → w.heap.size ≤ k)
theorem Gr.grownBy {w w' : World} (g : Gr w w') (r : Option Nat) : w.grownBy w' r := ⟨g.os, g.tape, g.output, Gr.size g, fun k hk _ => Below.block g k hk⟩
theorem grown_both {A B C : World} {r : Option Nat} (h : A.grownBy B r) (k : B.grownBy C r) : A.grownBy C r :=
 ⟨k.os.trans h.os, k.tape.trans h.tape, k.output.trans h.output, Nat.le_trans h.size k.size, fun j hj hne => (k.block j (Nat.lt_of_lt_of_le hj h.size) hne).trans (h.block j hj hne)⟩
theorem row_box (w : World) (a : Option Addr) (n c : Nat) (fa : Option Addr) (fn fc : Nat) (y : Int) (e : TypeId) : (w.alloc (.cells #[.slice a n c, .slice fa fn fc, .int .i64 y] e)).cell? ⟨w.heap.size, 0, none⟩ = some (.slice a n c) ∧ (w.alloc (.cells #[.slice a n c, .slice fa fn fc, .int .i64 y] e)).cell? ⟨w.heap.size, 1, none⟩ = some (.slice fa fn fc) ∧ (w.alloc (.cells #[.slice a n c, .slice fa fn fc, .int .i64 y] e)).cell? ⟨w.heap.size, 2, none⟩ = some (.int .i64 y) := by
 refine ⟨?_, ?_, ?_⟩ <;> simp
theorem row_box' {w : World} (a : Option Addr) (n c : Nat) (fa : Option Addr) (fn fc : Nat) (y : Int) {b : Nat} (h : w.heap.size = b) : (w.alloc (.cells #[.slice a n c, .slice fa fn fc, .int .i64 y] 81)).cell? ⟨b, 0, none⟩ = some (.slice a n c) ∧ (w.alloc (.cells #[.slice a n c, .slice fa fn fc, .int .i64 y] 81)).cell? ⟨b, 1, none⟩ = some (.slice fa fn fc) ∧ (w.alloc (.cells #[.slice a n c, .slice fa fn fc, .int .i64 y] 81)).cell? ⟨b, 2, none⟩ = some (.int .i64 y) := by
 subst h
 exact row_box w a n c fa fn fc y 81
theorem RdR.take {w : World} {a : Option Addr} {n c : Nat} {raw : List Rw} (h : RdR w a n c raw) {k : Nat} (hk : k ≤ n) : RdR w a k c (raw.take k) := by
 obtain ⟨h1, h2, h3, h4, h5⟩ := h
 refine ⟨by rw [List.length_take]; omega, by omega, h3, h4, ?_⟩
 rcases h5 with h | ⟨b, o, e, hc⟩
 ·exact .inl (by omega)
 refine .inr ⟨b, o, e, fun i x hx => hc i x ?_⟩
 rw [List.getElem?_take] at hx
 split at hx
 ·exact hx
 cases hx
theorem RdR.drop {w : World} {b o n c : Nat} {raw : List Rw} (h : RdR w (some ⟨b, o, none⟩) n c raw) {k : Nat} (hk : k ≤ n) : RdR w (some ⟨b, o + k * 3, none⟩) (n - k) (c - k) (raw.drop k) := by
 obtain ⟨h1, h2, h3, h4, h5⟩ := h
 refine ⟨by rw [List.length_drop]; omega, by omega, by omega, (fun e => by cases e), ?_⟩
 by_cases h0 : n - k = 0
 ·exact .inl h0
 rcases h5 with h | ⟨b', o', e, hc⟩
 ·omega
 cases e
 refine .inr ⟨b, o + k * 3, rfl, fun i x hx => ?_⟩
 rw [List.getElem?_drop] at hx
 have := hc (k + i) x hx
 rw [show o + (k + i) * 3 = o + k * 3 + i * 3 by omega] at this
 exact this
theorem RdR.nil {w : World} {a : Option Addr} {c : Nat} (h : a = none → c = 0) (hc : c ≤ 9223372036854775807) : RdR w a 0 c [] := ⟨rfl, Nat.zero_le _, hc, h, .inl rfl⟩
theorem Dat.take {w0 w : World} {raw : List Rw} {L : Tbl (SL × Int)} (h : Dat w0 w raw L) (k : Nat) : Dat w0 w (raw.take k) (L.take k) := by
 refine ⟨by rw [List.length_take, List.length_take, h.1], fun i x r hx hr => ?_⟩
 rw [List.getElem?_take] at hx hr
 split at hx
 ·rw [if_pos ‹_›] at hr
  exact h.2 i x r hx hr
 cases hx
theorem Dat.drop {w0 w : World} {raw : List Rw} {L : Tbl (SL × Int)} (h : Dat w0 w raw L) (k : Nat) : Dat w0 w (raw.drop k) (L.drop k) := by
 refine ⟨by rw [List.length_drop, List.length_drop, h.1], fun i x r hx hr => ?_⟩
 rw [List.getElem?_drop] at hx hr
 exact h.2 _ x r hx hr
theorem tri3 (L M : List Int) : L < M ∨ L = M ∨ M < L := by
 by_cases h1 : L < M
 ·exact .inl h1
 by_cases h2 : M < L
 ·exact .inr (.inr h2)
 exact .inr (.inl (List.le_antisymm (List.not_lt.1 h2) (List.not_lt.1 h1)))
theorem fallX {j n : Nat} (h : j < n) : n - (intOf (.int .i64 ((j + 1 : Nat) : Int))).toNat < n - (intOf (.int .i64 (j : Int))).toNat := by simp only [intOf]; omega
def InY (y : Int) : Prop := -4000000000000000000 ≤ y ∧ y ≤ 4000000000000000000
theorem place_any (how : Int) (hh : how = 2 ∨ how = 3) (w0 w : World) (v : Value) (raw : List Rw) (T : Tbl (SL × Int)) (x : Rw) (r : List Int × (SL × Int))
  (hO : OwnR w0 w v raw) (hD : Dat w0 w raw T) (hx1 : Rd3 w x.a x.n x.c r.1) (hx2 : Old w0 w 3 x.n x.a) (hx3 : Rep w0 w x r.2) (hT : T.length ≤ 10000) (hy : ∀ q ∈ T, InY q.2.2) (hyr : InY r.2.2) :
  Calls Tryz.prog 116 #[v, .agg #[.slice x.a x.n x.c, .slice x.fa x.fn x.fc, .int .i64 x.y], .int .i64 how] w (RetRt w0 v (plc (addH how) T r.1 r.2) w) := by
 obtain ⟨xa, xn, xc, fa, fn, fc, y⟩ := x
 obtain ⟨rv, rL, ry⟩ := r
 have hyy : y = ry := hx3.2.2
 subst hyy
 obtain ⟨ra, rc, rfl, hR⟩ := hO.rd
 obtain ⟨wA, hwA⟩ : ∃ wA, w.alloc (.cells #[.slice xa xn xc, .slice fa fn fc, .int .i64 y] 81) = wA := ⟨_, rfl⟩
 have gA : Gr w wA := hwA ▸ (Gr.refl w).alloc _
 obtain ⟨y0, y1, y2⟩ : wA.cell? ⟨w.heap.size, 0, none⟩ = some (.slice xa xn xc) ∧ wA.cell? ⟨w.heap.size, 1, none⟩ = some (.slice fa fn fc) ∧ wA.cell? ⟨w.heap.size, 2, none⟩ = some (.int .i64 y) := by rw [← hwA]; exact row_box w _ _ _ _ _ _ _ 81
 have HO := Lh (hO.gr gA)
 have HD := Lh (hD.gr gA)
 have HR := Lh (hR.gr gA)
 have HX1 := Lh (hx1.gr gA)
 have HX2 := Lh (hx2.gr gA)
 have HX3 := Lh (hx3.gr gA)
 have HN := Lh (And.intro hT hD.1)
 have HY := Lh (And.intro hy hyr)
 have GA := Lh gA
 clear hO hD hR hx1 hx2 hx3 hT hy hyr gA
 simp only at HX1 HX2 HX3 HY ⊢
 generalize hnn : raw.length = n at *
 go_enter Tryz.func116, Tryz.ntmps116
 generalize hbx : w.heap.size = bx at *
 go_wp2_with fail
 go_loopw [7] (fun si wr => ∃ i : Nat, i ≤ n ∧ si = .int .i64 i ∧ Hid (∀ j q, j < i → T[j]? = some q → q.1 < rv) ∧ Hid (Gr wA wr)) (fun si _ => n - (intOf si).toNat)
 case atStart => exact ⟨0, Nat.zero_le _, rfl, Lh (fun j _ hj => absurd hj (Nat.not_lt_zero j)), Lh (Gr.refl wA)⟩
 case round =>
  obtain ⟨i, hi, rfl, HJ, HG⟩ := hrel
  have w9 := Lh (show wrap64 ((i : Int) + 1) = ((i + 1 : Nat) : Int) by rw [IntWalk.wrap64_in _ (by have := HN.out; omega)]; omega)
  by_cases hlt : i < n
  ·have i1 : (i : Int) < (n : Int) := by omega
   have i1d : decide ((i : Int) < (n : Int)) = true := decide_eq_true i1
   obtain ⟨b, o, z, rfl, hz, z0, z1, z2⟩ := HR.out.at hlt
   obtain ⟨q, hq, d1, d2, d3⟩ := HD.out.at hz
   have CC := Lh (fun W (k : Gr wA W) => compare_any z.a xa z.n xn z.c xc q.1 rv W (d1.gr k) (HX1.out.gr k))
   have HZ := Lh (And.intro hz hq)
   have HD3 := Lh d3
   have Hlt := Lh hlt
   clear hz d1 d2 d3 hlt
   have hS : Gr wA wr := HG.out
   by_cases hA : q.1 < rv
   ·have C92 := Lh (fun W (k : Gr wA W) => show Calls Tryz.prog 92 #[.slice z.a z.n z.c, .slice xa xn xc] W (fun e w' => ∃ zz : Int, (e = .returned (.int .i64 zz) ∧ decide (zz < 0) = true) ∧ Gr W w') from (CC.out W k).mono fun e w' ⟨⟨zz, he, h1, _⟩, g⟩ => ⟨zz, ⟨he, decide_eq_true (h1.2 hA)⟩, g⟩)
    have HJn := Lh (show ∀ j p, j < i + 1 → T[j]? = some p → p.1 < rv from fun j p hj hp => by
     rcases Nat.lt_succ_iff_lt_or_eq.1 hj with h | rfl
     ·exact HJ.out j p h hp
     rw [HZ.out.2] at hp; cases hp; exact hA)
    clear hA hq CC HJ
    as_aux_lemma =>
     go_upto_region 2 with fail
     refine Hg (fun w' => Gr wA w') 15 ?_
     replace hS : Gr wA wr.drew := hS.drew
     obtain ⟨wT, hw9⟩ : ∃ W9, wr.drew = W9 := ⟨_, rfl⟩
     rw [hw9] at hS ⊢
     clear hw9
     refine H12 0 1 2 3 4 5 6 7 8 9 10 11 (c4 y0 z0 z2 y2) hS ?_
     refine Hr 12 rfl (fun K hK => ?_)
     go_simp
     refine ⟨trivial, ?_⟩
     refine (callsIn_wide.2 (C92.out _ hS)).mono ?_
     rintro e wX ⟨zz, ⟨rfl, hz9⟩, gX⟩
     have hS : Gr wA wX := hS.trans gX
     refine hK.out _ _ hS ?_
     clear hK K gX
     refine H2 13 14 (c4 y0 z0 z2 y2) hS ?_
     refine Hd ?_
     have HG2 := Lh hS
     have e9 := w9.out
     clear hS
     go_wp2_with fail
     go_roundw
     case rel => exact ⟨i + 1, Hlt.out, by first | rw [e9] | rfl, HJn, HG2⟩
     case measure => first | (rw [e9]; exact fallX Hlt.out) | exact fallX Hlt.out
   by_cases hB : q.1 = rv
   ·have C92 := Lh (fun W (k : Gr wA W) => show Calls Tryz.prog 92 #[.slice z.a z.n z.c, .slice xa xn xc] W (fun e w' => ∃ zz : Int, (e = .returned (.int .i64 zz) ∧ zz = 0) ∧ Gr W w') from (CC.out W k).mono fun e w' ⟨⟨zz, he, h1, h2⟩, g⟩ => ⟨zz, ⟨he, by
     rcases Int.lt_trichotomy zz 0 with h | h | h
     ·exact absurd (h1.1 h) hA
     ·exact h
     exact absurd (h2.1 h) (by rw [← hB]; exact List.lt_irrefl _)⟩, g⟩)
    as_aux_lemma =>
     have HQ := Lh (plc_eq (addH how) HJ.out HZ.out.2 hB (d := (rL, y)))
     have HBk : ∃ g, b = g ∧ o = 0 ∧ w0.heap.size ≤ g := by
      rcases HO.out.blk with ⟨e, _⟩ | ⟨g, c, cur, e, _, _, hg, _⟩
      ·cases e
      cases e; exact ⟨_, rfl, rfl, hg⟩
     obtain ⟨g, rfl, rfl, hg0⟩ := HBk
     rw [Nat.zero_add] at z0 z1 z2
     have hyz : z.y = q.2.2 := HD3.out.2.2
     have HB0 := Lh hg0
     have HYq := Lh (HY.out.1 q (List.mem_of_getElem? HZ.out.2))
     obtain ⟨yz, hyz2⟩ : ∃ yz, z.y = yz := ⟨_, rfl⟩
     rw [hyz2] at z2
     obtain ⟨ys, hys⟩ : ∃ ys, yz + y = ys := ⟨_, rfl⟩
     have f1 : wrap64 (yz + y) = ys := (IntWalk.wrap64_in _ (by have h1 := HYq.out; have h2 := HY.out.2; rw [← hyz, hyz2] at h1; simp only [InY] at h1 h2; omega)).trans hys
     have f2 : IntKind.i64.wrap (yz + y) = ys := (IntWalk.i64_in _ (by have h1 := HYq.out; have h2 := HY.out.2; rw [← hyz, hyz2] at h1; simp only [InY] at h1 h2; omega)).trans hys
     have HYZ := Lh (show yz = q.2.2 ∧ yz + y = ys from ⟨hyz2.symm.trans hyz, hys⟩)
     clear hA hB hq CC HJ hyz hyz2 hys hg0
     rcases hh with rfl | rfl
     ·go_upto_region 2 with fail
      refine Hg (fun w' => Gr wA w') 15 ?_
      replace hS : Gr wA wr.drew := hS.drew
      obtain ⟨wT, hw9⟩ : ∃ W9, wr.drew = W9 := ⟨_, rfl⟩
      rw [hw9] at hS ⊢
      clear hw9
      refine H12 0 1 2 3 4 5 6 7 8 9 10 11 (c4 y0 z0 z2 y2) hS ?_
      refine Hr 12 rfl (fun K hK => ?_)
      go_simp
      refine ⟨trivial, ?_⟩
      refine (callsIn_wide.2 (C92.out _ hS)).mono ?_
      rintro e wX ⟨zz, ⟨rfl, hz9⟩, gX⟩
      have hS : Gr wA wX := hS.trans gX
      refine hK.out _ _ hS ?_
      clear hK K gX
      refine H2 13 14 (c4 y0 z0 z2 y2) hS ?_
      refine Hd ?_
      go_upto_region 4 with fail
      refine Hg (fun w' => Gr wA w') 15 ?_
      replace hS : Gr wA wX.drew := hS.drew
      obtain ⟨wT, hw9⟩ : ∃ W9, wX.drew = W9 := ⟨_, rfl⟩
      rw [hw9] at hS ⊢
      clear hw9
      refine H12 0 1 2 3 4 5 6 7 8 9 10 11 (c4 y0 z0 z2 y2) hS ?_
      refine Hr 12 rfl (fun K hK => ?_)
      go_simp
      refine ⟨trivial, ?_⟩
      refine (callsIn_wide.2 (C92.out _ hS)).mono ?_
      rintro e wX ⟨zz, ⟨rfl, hz9⟩, gX⟩
      have hS : Gr wA wX := hS.trans gX
      refine hK.out _ _ hS ?_
      clear hK K gX
      refine H2 13 14 (c4 y0 z0 z2 y2) hS ?_
      refine Hd ?_
      go_upto_region 9 with fail
      refine (wpIn_wide (n := 3)).1 ?_
      refine wpIn_region_mark (fun w' => Gr wA w') 13 14 (by kernel_rfl) rfl rfl ?_
      replace hS : Gr wA wX.drew := hS.drew
      obtain ⟨wU, hw9⟩ : ∃ W9, wX.drew = W9 := ⟨_, rfl⟩
      rw [hw9] at hS ⊢
      clear hw9
      refine Mk 0 rfl (c2 z2 y2) hS ?_; refine Mk 1 rfl (c2 z2 y2) hS ?_; refine Mk 2 rfl (c2 z2 y2) hS ?_; refine Mk 3 rfl (c2 z2 y2) hS ?_; refine Mk 4 rfl (c2 z2 y2) hS ?_; refine Mk 5 rfl (c2 z2 y2) hS ?_; refine Mk 6 rfl (c2 z2 y2) hS ?_; refine Mk 7 rfl (c2 z2 y2) hS ?_; refine Mk 8 rfl (c2 z2 y2) hS ?_; refine Mk 9 rfl (c2 z2 y2) hS ?_; refine Mk 10 rfl (c2 z2 y2) hS ?_; refine Mk 11 rfl (c2 z2 y2) hS ?_; refine Mk 12 rfl (c2 z2 y2) hS ?_
      obtain ⟨ym, hym⟩ : ∃ ym : Int, min ys 1000000000000001 = ym := ⟨_, rfl⟩
      have HU := Lh (HO.out.gr hS)
      rw [← hnn] at HU
      obtain ⟨hst, hgg⟩ := OwnR.setY HU.out HZ.out.1 ym
      have HST := Lh hst
      have HGG := Lh hgg
      have HUD := Lh (HD.out.gr hS)
      have fz := HU.out.1.frozenAt (i * 3 + 2)
      have q2 := hS.cell z2
      have HSS := Lh hS
      clear hst hgg
      refine wpAnyMIn_ready [13] (by kernel_rfl) (by simp) ?_
      refine AllMIn.cons rfl (by rfl) (fun K hK => ?_) AllMIn.nil
      go_simp
      refine hK.out _ _ (fun e => by first | cases e | simp at e) ?_
      clear hK K hS
      refine wpAnyMIn_done (by kernel_rfl) ?_ _
      obtain ⟨wE, hwE⟩ : ∃ wE, wU.setCell ⟨b, i * 3 + 2, none⟩ (.int .i64 ym) = wE := ⟨_, rfl⟩
      rw [hwE] at HST HGG
      try rw [hwE]
      clear hwE fz q2 y0 y1 y2 z0 z1 z2 f1 f2 C92
      go_wp2_with fail
      go_ret
      have hgw : w.grownBy wE (some b) := grown_both (Gr.grownBy (GA.out.trans HSS.out) _) HGG.out
      refine ⟨_, _, rfl, (by have := HST.out; rwa [hnn] at this), ?_, hgw, .inl rfl⟩
      rw [HQ.out]
      have hval : addH 2 q.2 (rL, y) = (q.2.1, ym) := by
       unfold addH
       rw [if_neg (by decide)]
       rw [if_pos rfl]
       refine Prod.ext rfl ?_
       show min (q.2.2 + y) (MX + 1) = ym
       rw [← HYZ.out.1, HYZ.out.2, ← hym]
       rfl
      rw [hval]
      have hdg := Dat.grown HUD.out (HO.out.gr HSS.out) (by rw [show (Value.slice (some ⟨b, 0, none⟩) n rc).ownBlock = some b from rfl]; exact HGG.out)
      have hz3 := HD3.out.gr HSS.out
      refine Dat.upd (x' := { z with y := ym }) (d := (q.2.1, ym)) hdg HZ.out.1 HZ.out.2 ⟨rfl, rfl, rfl⟩ ⟨?_, ?_, rfl⟩
      ·exact ((hdg.2 i z q HZ.out.1 HZ.out.2).2.2).1
      exact ((hdg.2 i z q HZ.out.1 HZ.out.2).2.2).2.1
     go_upto_region 2 with fail
     refine Hg (fun w' => Gr wA w') 15 ?_
     replace hS : Gr wA wr.drew := hS.drew
     obtain ⟨wT, hw9⟩ : ∃ W9, wr.drew = W9 := ⟨_, rfl⟩
     rw [hw9] at hS ⊢
     clear hw9
     refine H12 0 1 2 3 4 5 6 7 8 9 10 11 (c4 y0 z0 z2 y2) hS ?_
     refine Hr 12 rfl (fun K hK => ?_)
     go_simp
     refine ⟨trivial, ?_⟩
     refine (callsIn_wide.2 (C92.out _ hS)).mono ?_
     rintro e wX ⟨zz, ⟨rfl, hz9⟩, gX⟩
     have hS : Gr wA wX := hS.trans gX
     refine hK.out _ _ hS ?_
     clear hK K gX
     refine H2 13 14 (c4 y0 z0 z2 y2) hS ?_
     refine Hd ?_
     go_upto_region 4 with fail
     refine Hg (fun w' => Gr wA w') 15 ?_
     replace hS : Gr wA wX.drew := hS.drew
     obtain ⟨wT, hw9⟩ : ∃ W9, wX.drew = W9 := ⟨_, rfl⟩
     rw [hw9] at hS ⊢
     clear hw9
     refine H12 0 1 2 3 4 5 6 7 8 9 10 11 (c4 y0 z0 z2 y2) hS ?_
     refine Hr 12 rfl (fun K hK => ?_)
     go_simp
     refine ⟨trivial, ?_⟩
     refine (callsIn_wide.2 (C92.out _ hS)).mono ?_
     rintro e wX ⟨zz, ⟨rfl, hz9⟩, gX⟩
     have hS : Gr wA wX := hS.trans gX
     refine hK.out _ _ hS ?_
     clear hK K gX
     refine H2 13 14 (c4 y0 z0 z2 y2) hS ?_
     refine Hd ?_
     go_upto_region 11 with fail
     refine (wpIn_wide (n := 3)).1 ?_
     refine wpIn_region_mark (fun w' => Gr wA w') 12 13 (by kernel_rfl) rfl rfl ?_
     replace hS : Gr wA wX.drew := hS.drew
     obtain ⟨wU, hw9⟩ : ∃ W9, wX.drew = W9 := ⟨_, rfl⟩
     rw [hw9] at hS ⊢
     clear hw9
     refine Mk 0 rfl (c2 z2 y2) hS ?_; refine Mk 1 rfl (c2 z2 y2) hS ?_; refine Mk 2 rfl (c2 z2 y2) hS ?_; refine Mk 3 rfl (c2 z2 y2) hS ?_; refine Mk 4 rfl (c2 z2 y2) hS ?_; refine Mk 5 rfl (c2 z2 y2) hS ?_; refine Mk 6 rfl (c2 z2 y2) hS ?_; refine Mk 7 rfl (c2 z2 y2) hS ?_; refine Mk 8 rfl (c2 z2 y2) hS ?_; refine Mk 9 rfl (c2 z2 y2) hS ?_; refine Mk 10 rfl (c2 z2 y2) hS ?_; refine Mk 11 rfl (c2 z2 y2) hS ?_
     obtain ⟨ym, hym⟩ : ∃ ym : Int, min yz y = ym := ⟨_, rfl⟩
     have HU := Lh (HO.out.gr hS)
     rw [← hnn] at HU
     obtain ⟨hst, hgg⟩ := OwnR.setY HU.out HZ.out.1 ym
     have HST := Lh hst
     have HGG := Lh hgg
     have HUD := Lh (HD.out.gr hS)
     have fz := HU.out.1.frozenAt (i * 3 + 2)
     have q2 := hS.cell z2
     have HSS := Lh hS
     clear hst hgg
     refine wpAnyMIn_ready [12] (by kernel_rfl) (by simp) ?_
     refine AllMIn.cons rfl (by rfl) (fun K hK => ?_) AllMIn.nil
     go_simp
     refine hK.out _ _ (fun e => by first | cases e | simp at e) ?_
     clear hK K hS
     refine wpAnyMIn_done (by kernel_rfl) ?_ _
     obtain ⟨wE, hwE⟩ : ∃ wE, wU.setCell ⟨b, i * 3 + 2, none⟩ (.int .i64 ym) = wE := ⟨_, rfl⟩
     rw [hwE] at HST HGG
     try rw [hwE]
     clear hwE fz q2 y0 y1 y2 z0 z1 z2 f1 f2 C92
     go_wp2_with fail
     go_ret
     have hgw : w.grownBy wE (some b) := grown_both (Gr.grownBy (GA.out.trans HSS.out) _) HGG.out
     refine ⟨_, _, rfl, (by have := HST.out; rwa [hnn] at this), ?_, hgw, .inl rfl⟩
     rw [HQ.out]
     have hval : addH 3 q.2 (rL, y) = (q.2.1, ym) := by
      unfold addH
      rw [if_neg (by decide)]
      rw [if_neg (by decide)]
      refine Prod.ext rfl ?_
      show min q.2.2 y = ym
      rw [← HYZ.out.1, ← hym]
      skip
     rw [hval]
     have hdg := Dat.grown HUD.out (HO.out.gr HSS.out) (by rw [show (Value.slice (some ⟨b, 0, none⟩) n rc).ownBlock = some b from rfl]; exact HGG.out)
     have hz3 := HD3.out.gr HSS.out
     refine Dat.upd (x' := { z with y := ym }) (d := (q.2.1, ym)) hdg HZ.out.1 HZ.out.2 ⟨rfl, rfl, rfl⟩ ⟨?_, ?_, rfl⟩
     ·exact ((hdg.2 i z q HZ.out.1 HZ.out.2).2.2).1
     exact ((hdg.2 i z q HZ.out.1 HZ.out.2).2.2).2.1
   have hC : rv < q.1 := by
    rcases tri3 q.1 rv with h | h | h
    ·exact absurd h hA
    ·exact absurd h hB
    exact h
   have C92 := Lh (fun W (k : Gr wA W) => show Calls Tryz.prog 92 #[.slice z.a z.n z.c, .slice xa xn xc] W (fun e w' => ∃ zz : Int, (e = .returned (.int .i64 zz) ∧ (decide (zz < 0) = false ∧ (zz == 0) = false)) ∧ Gr W w') from (CC.out W k).mono fun e w' ⟨⟨zz, he, h1, h2⟩, g⟩ => ⟨zz, ⟨he, by
    have := h2.2 hC
    exact ⟨decide_eq_false (by omega), by simp; omega⟩⟩, g⟩)
   have HP := Lh (plc_lt (addH how) HJ.out HZ.out.2 hC (d := (rL, y)))
   clear hA hB hC hq CC HJ
   as_aux_lemma =>
    go_upto_region 2 with fail
    refine Hg (fun w' => Gr wA w') 15 ?_
    replace hS : Gr wA wr.drew := hS.drew
    obtain ⟨wT, hw9⟩ : ∃ W9, wr.drew = W9 := ⟨_, rfl⟩
    rw [hw9] at hS ⊢
    clear hw9
    refine H12 0 1 2 3 4 5 6 7 8 9 10 11 (c4 y0 z0 z2 y2) hS ?_
    refine Hr 12 rfl (fun K hK => ?_)
    go_simp
    refine ⟨trivial, ?_⟩
    refine (callsIn_wide.2 (C92.out _ hS)).mono ?_
    rintro e wX ⟨zz, ⟨rfl, ⟨hz9, hz8⟩⟩, gX⟩
    have hS : Gr wA wX := hS.trans gX
    refine hK.out _ _ hS ?_
    clear hK K gX
    refine H2 13 14 (c4 y0 z0 z2 y2) hS ?_
    refine Hd ?_
    obtain ⟨wV, hw8⟩ : ∃ W9, wX = W9 := ⟨_, rfl⟩
    subst hw8
    go_upto_region 4 with fail
    refine Hg (fun w' => Gr wA w') 15 ?_
    replace hS : Gr wA wX.drew := hS.drew
    obtain ⟨wT, hw9⟩ : ∃ W9, wX.drew = W9 := ⟨_, rfl⟩
    rw [hw9] at hS ⊢
    clear hw9
    refine H12 0 1 2 3 4 5 6 7 8 9 10 11 (c4 y0 z0 z2 y2) hS ?_
    refine Hr 12 rfl (fun K hK => ?_)
    go_simp
    refine ⟨trivial, ?_⟩
    refine (callsIn_wide.2 (C92.out _ hS)).mono ?_
    rintro e wX ⟨zz, ⟨rfl, ⟨hz9, hz8⟩⟩, gX⟩
    have hS : Gr wA wX := hS.trans gX
    refine hK.out _ _ hS ?_
    clear hK K gX
    refine H2 13 14 (c4 y0 z0 z2 y2) hS ?_
    refine Hd ?_
    obtain ⟨wU, hw8⟩ : ∃ W9, wX = W9 := ⟨_, rfl⟩
    subst hw8
    have HRT := Lh (HR.out.gr hS)
    have HSS := Lh hS
    have HRA := Lh (RdR.take (HR.out.gr (hS.trans ((Gr.refl wX).alloc (.cells #[] 81)))) (k := i) (by have := Hlt.out; omega))
    have HL0 := Lh (OwnR.lit0 wX)
    have HKb := Lh (show ([] : List Rw).length + i ≤ 1000000 by have := HN.out; simp; omega)
    have HKc := Lh (show ([] ++ raw.take i).length < 999999 by have := HN.out; simp; omega)
    have HKd := Lh (show (([] ++ raw.take i) ++ [Rw.mk xa xn xc fa fn fc y]).length + (n - i) ≤ 1000000 by have := HN.out; simp; omega)
    have t0 := hS.cell y0
    have t1 := hS.cell y1
    have t2 := hS.cell y2
    have k1 : (i : Int) ≤ (n : Int) := by have := Hlt.out; omega
    have k2 : (i : Int) ≤ (rc : Int) := by have := HRT.out.2.1; omega
    have k3 : (n : Int) ≤ (rc : Int) := by have := HRT.out.2.1; omega
    have k4 : ¬ rc = i := by have := HRT.out.2.1; have := Hlt.out; omega
    clear hS y0 y1 y2 z0 z2 i1d C92 i1
    go_wp2_with (first
     | (at_builtin; refine wpList_cat_rows rfl _ _ 77 rfl Tryz.underlying77 _ [] rfl HL0.out _ i rc (raw.take i) rfl HRA.out HKb.out ?_; intro v9 w4 h4 _; have H4 := Lh h4; have t0 := h4.2.cell t0; have t1 := h4.2.cell t1; have t2 := h4.2.cell t2; clear h4 HL0)
     | (at_builtin; refine wpList_app_row rfl _ _ 77 rfl Tryz.underlying77 _ ([] ++ raw.take i) rfl (H4.out.gr ((Gr.refl w4).alloc (.cells #[.slice xa xn xc, .slice fa fn fc, .int .i64 y] 81))) _ (Rw.mk xa xn xc fa fn fc y) rfl (row_box' _ _ _ _ _ _ _ rfl) HKc.out ?_; intro v8 w5 h5 _; have H5 := Lh h5; have HRD := Lh (RdR.drop (HRT.out.gr h5.2) (k := i) (by have := Hlt.out; omega)); clear h5 H4)
     | (at_builtin; go_must (refine wpList_cat_rows rfl _ _ 77 rfl Tryz.underlying77 _ (([] ++ raw.take i) ++ [Rw.mk xa xn xc fa fn fc y]) rfl H5.out _ (n - i) (rc - i) (raw.drop i) rfl HRD.out HKd.out ?_); intro v7 w6 h6 _; have H6 := Lh h6; clear h6))
    go_ret
    have hg := GA.out.trans (HSS.out.trans H6.out.2)
    refine ⟨v7, _, rfl, OwnR.base H6.out (HO.out.2.trans HSS.out), ?_, Gr.grownBy hg _, .inr fun k hk => Nat.le_trans (GA.out.trans HSS.out).size (H6.out.1.lt k hk).1⟩
    rw [HP.out]
    have hfin := (((Dat.take HD.out i).append ((Dat.nil w0 wA).snoc (x := Rw.mk xa xn xc fa fn fc y) (r := (rv, (rL, y))) HX1.out HX2.out HX3.out)).append (Dat.drop HD.out i)).gr (HSS.out.trans H6.out.2)
    simp only [List.nil_append, List.append_assoc, List.cons_append] at hfin ⊢
    exact hfin
  obtain rfl : i = n := by omega
  have i1 : ¬ (i : Int) < (i : Int) := by omega
  have HP := Lh (show plc (addH how) T rv (rL, y) = T.take i ++ (rv, (rL, y)) :: T.drop i by
   have hl : T.length = i := by have := HN.out.2; omega
   rw [plc_end (addH how) fun j q hj hq => HJ.out j q (by omega) hq, ← hl, List.take_length, List.drop_length])
  clear hlt HJ
  have hS : Gr wA wr := HG.out
  as_aux_lemma =>
   cases ra with
   | none =>
    have HRC := Lh (HR.out.2.2.2.1 rfl)
    go_upto_region 2 with fail
    refine Hg (fun w' => Gr wA w') 15 ?_
    replace hS : Gr wA wr.drew := hS.drew
    obtain ⟨wT, hw9⟩ : ∃ W9, wr.drew = W9 := ⟨_, rfl⟩
    rw [hw9] at hS ⊢
    clear hw9
    refine H5 0 1 2 3 4 tv hS ?_; refine Hs8 5 6 7 8 9 10 11 12 hS ?_; refine Hs1 13 hS ?_; refine H1 14 tv hS ?_
    refine Hd ?_
    go_upto_region 4 with fail
    refine Hg (fun w' => Gr wA w') 15 ?_
    replace hS : Gr wA wT.drew := hS.drew
    obtain ⟨wU, hw9⟩ : ∃ W9, wT.drew = W9 := ⟨_, rfl⟩
    rw [hw9] at hS ⊢
    clear hw9
    refine H5 0 1 2 3 4 tv hS ?_; refine Hs8 5 6 7 8 9 10 11 12 hS ?_; refine Hs1 13 hS ?_; refine H1 14 tv hS ?_
    refine Hd ?_
    have HRT := Lh (HR.out.gr hS)
    have HSS := Lh hS
    have HRA := Lh (RdR.take (HR.out.gr (hS.trans ((Gr.refl wU).alloc (.cells #[] 81)))) (k := i) (by omega))
    have HL0 := Lh (OwnR.lit0 wU)
    have HKb := Lh (show ([] : List Rw).length + i ≤ 1000000 by have := HN.out; simp; omega)
    have HKc := Lh (show ([] ++ raw.take i).length < 999999 by have := HN.out; simp; omega)
    have HKd := Lh (show (([] ++ raw.take i) ++ [Rw.mk xa xn xc fa fn fc y]).length + 0 ≤ 1000000 by have := HN.out; simp; omega)
    have t0 := hS.cell y0
    have t1 := hS.cell y1
    have t2 := hS.cell y2
    have k1 : (i : Int) ≤ (i : Int) := by omega
    have k2 : (i : Int) ≤ (rc : Int) := by have := HRT.out.2.1; omega
    have k3 : (i : Int) ≤ (rc : Int) := by have := HRT.out.2.1; omega
    clear hS y0 y1 y2  i1
    go_wp2_with (first
     | (at_builtin; refine wpList_cat_rows rfl _ _ 77 rfl Tryz.underlying77 _ [] rfl HL0.out _ i rc (raw.take i) rfl HRA.out HKb.out ?_; intro v9 w4 h4 _; have H4 := Lh h4; have t0 := h4.2.cell t0; have t1 := h4.2.cell t1; have t2 := h4.2.cell t2; clear h4 HL0)
     | (at_builtin; refine wpList_app_row rfl _ _ 77 rfl Tryz.underlying77 _ ([] ++ raw.take i) rfl (H4.out.gr ((Gr.refl w4).alloc (.cells #[.slice xa xn xc, .slice fa fn fc, .int .i64 y] 81))) _ (Rw.mk xa xn xc fa fn fc y) rfl (row_box' _ _ _ _ _ _ _ rfl) HKc.out ?_; intro v8 w5 h5 _; have H5 := Lh h5; clear h5 H4)
     | (at_builtin; go_must (refine wpList_cat_rows rfl _ _ 77 rfl Tryz.underlying77 _ (([] ++ raw.take i) ++ [Rw.mk xa xn xc fa fn fc y]) rfl H5.out _ 0 _ [] rfl (RdR.nil (fun _ => by have := HRC.out; omega) (by have := HRT.out.2.2.1; omega)) HKd.out ?_); intro v7 w6 h6 _; have H6 := Lh h6; clear h6))
    go_ret
    have hg := GA.out.trans (HSS.out.trans H6.out.2)
    refine ⟨v7, _, rfl, OwnR.base H6.out (HO.out.2.trans HSS.out), ?_, Gr.grownBy hg _, .inr fun k hk => Nat.le_trans (GA.out.trans HSS.out).size (H6.out.1.lt k hk).1⟩
    rw [HP.out]
    have hdr : T.drop i = [] := List.drop_eq_nil_of_le (by have := HN.out.2; omega)
    rw [hdr]
    have hfin := (((Dat.take HD.out i).append ((Dat.nil w0 wA).snoc (x := Rw.mk xa xn xc fa fn fc y) (r := (rv, (rL, y))) HX1.out HX2.out HX3.out)).append (Dat.nil w0 wA)).gr (HSS.out.trans H6.out.2)
    simp only [List.nil_append, List.append_nil] at hfin ⊢
    exact hfin
   | some ad =>
    by_cases h9 : i = rc
    ·subst h9
     go_upto_region 2 with fail
     refine Hg (fun w' => Gr wA w') 15 ?_
     replace hS : Gr wA wr.drew := hS.drew
     obtain ⟨wT, hw9⟩ : ∃ W9, wr.drew = W9 := ⟨_, rfl⟩
     rw [hw9] at hS ⊢
     clear hw9
     refine H5 0 1 2 3 4 tv hS ?_; refine Hs8 5 6 7 8 9 10 11 12 hS ?_; refine Hs1 13 hS ?_; refine H1 14 tv hS ?_
     refine Hd ?_
     go_upto_region 4 with fail
     refine Hg (fun w' => Gr wA w') 15 ?_
     replace hS : Gr wA wT.drew := hS.drew
     obtain ⟨wU, hw9⟩ : ∃ W9, wT.drew = W9 := ⟨_, rfl⟩
     rw [hw9] at hS ⊢
     clear hw9
     refine H5 0 1 2 3 4 tv hS ?_; refine Hs8 5 6 7 8 9 10 11 12 hS ?_; refine Hs1 13 hS ?_; refine H1 14 tv hS ?_
     refine Hd ?_
     have HRT := Lh (HR.out.gr hS)
     have HSS := Lh hS
     have HRA := Lh (RdR.take (HR.out.gr (hS.trans ((Gr.refl wU).alloc (.cells #[] 81)))) (k := i) (by omega))
     have HL0 := Lh (OwnR.lit0 wU)
     have HKb := Lh (show ([] : List Rw).length + i ≤ 1000000 by have := HN.out; simp; omega)
     have HKc := Lh (show ([] ++ raw.take i).length < 999999 by have := HN.out; simp; omega)
     have HKd := Lh (show (([] ++ raw.take i) ++ [Rw.mk xa xn xc fa fn fc y]).length + 0 ≤ 1000000 by have := HN.out; simp; omega)
     have t0 := hS.cell y0
     have t1 := hS.cell y1
     have t2 := hS.cell y2
     have k1 : (i : Int) ≤ (i : Int) := by omega
     have k2 : (i : Int) ≤ (i : Int) := by have := HRT.out.2.1; omega
     have k3 : (i : Int) ≤ (i : Int) := by have := HRT.out.2.1; omega
     clear hS y0 y1 y2  i1
     go_wp2_with (first
      | (at_builtin; refine wpList_cat_rows rfl _ _ 77 rfl Tryz.underlying77 _ [] rfl HL0.out _ i i (raw.take i) rfl HRA.out HKb.out ?_; intro v9 w4 h4 _; have H4 := Lh h4; have t0 := h4.2.cell t0; have t1 := h4.2.cell t1; have t2 := h4.2.cell t2; clear h4 HL0)
      | (at_builtin; refine wpList_app_row rfl _ _ 77 rfl Tryz.underlying77 _ ([] ++ raw.take i) rfl (H4.out.gr ((Gr.refl w4).alloc (.cells #[.slice xa xn xc, .slice fa fn fc, .int .i64 y] 81))) _ (Rw.mk xa xn xc fa fn fc y) rfl (row_box' _ _ _ _ _ _ _ rfl) HKc.out ?_; intro v8 w5 h5 _; have H5 := Lh h5; clear h5 H4)
      | (at_builtin; go_must (refine wpList_cat_rows rfl _ _ 77 rfl Tryz.underlying77 _ (([] ++ raw.take i) ++ [Rw.mk xa xn xc fa fn fc y]) rfl H5.out _ 0 _ [] rfl (RdR.nil (fun e => by simp at e) (by have := HRT.out.2.2.1; omega)) HKd.out ?_); intro v7 w6 h6 _; have H6 := Lh h6; clear h6))
     go_ret
     have hg := GA.out.trans (HSS.out.trans H6.out.2)
     refine ⟨v7, _, rfl, OwnR.base H6.out (HO.out.2.trans HSS.out), ?_, Gr.grownBy hg _, .inr fun k hk => Nat.le_trans (GA.out.trans HSS.out).size (H6.out.1.lt k hk).1⟩
     rw [HP.out]
     have hdr : T.drop i = [] := List.drop_eq_nil_of_le (by have := HN.out.2; omega)
     rw [hdr]
     have hfin := (((Dat.take HD.out i).append ((Dat.nil w0 wA).snoc (x := Rw.mk xa xn xc fa fn fc y) (r := (rv, (rL, y))) HX1.out HX2.out HX3.out)).append (Dat.nil w0 wA)).gr (HSS.out.trans H6.out.2)
     simp only [List.nil_append, List.append_nil] at hfin ⊢
     exact hfin
    have k4 : ¬ rc = i := fun e => h9 e.symm
    go_upto_region 2 with fail
    refine Hg (fun w' => Gr wA w') 15 ?_
    replace hS : Gr wA wr.drew := hS.drew
    obtain ⟨wT, hw9⟩ : ∃ W9, wr.drew = W9 := ⟨_, rfl⟩
    rw [hw9] at hS ⊢
    clear hw9
    refine H5 0 1 2 3 4 tv hS ?_; refine Hs8 5 6 7 8 9 10 11 12 hS ?_; refine Hs1 13 hS ?_; refine H1 14 tv hS ?_
    refine Hd ?_
    go_upto_region 4 with fail
    refine Hg (fun w' => Gr wA w') 15 ?_
    replace hS : Gr wA wT.drew := hS.drew
    obtain ⟨wU, hw9⟩ : ∃ W9, wT.drew = W9 := ⟨_, rfl⟩
    rw [hw9] at hS ⊢
    clear hw9
    refine H5 0 1 2 3 4 tv hS ?_; refine Hs8 5 6 7 8 9 10 11 12 hS ?_; refine Hs1 13 hS ?_; refine H1 14 tv hS ?_
    refine Hd ?_
    have HRT := Lh (HR.out.gr hS)
    have HSS := Lh hS
    have HRA := Lh (RdR.take (HR.out.gr (hS.trans ((Gr.refl wU).alloc (.cells #[] 81)))) (k := i) (by omega))
    have HL0 := Lh (OwnR.lit0 wU)
    have HKb := Lh (show ([] : List Rw).length + i ≤ 1000000 by have := HN.out; simp; omega)
    have HKc := Lh (show ([] ++ raw.take i).length < 999999 by have := HN.out; simp; omega)
    have HKd := Lh (show (([] ++ raw.take i) ++ [Rw.mk xa xn xc fa fn fc y]).length + 0 ≤ 1000000 by have := HN.out; simp; omega)
    have t0 := hS.cell y0
    have t1 := hS.cell y1
    have t2 := hS.cell y2
    have k1 : (i : Int) ≤ (i : Int) := by omega
    have k2 : (i : Int) ≤ (rc : Int) := by have := HRT.out.2.1; omega
    have k3 : (i : Int) ≤ (rc : Int) := by have := HRT.out.2.1; omega
    clear hS y0 y1 y2  i1
    go_wp2_with (first
     | (at_builtin; refine wpList_cat_rows rfl _ _ 77 rfl Tryz.underlying77 _ [] rfl HL0.out _ i rc (raw.take i) rfl HRA.out HKb.out ?_; intro v9 w4 h4 _; have H4 := Lh h4; have t0 := h4.2.cell t0; have t1 := h4.2.cell t1; have t2 := h4.2.cell t2; clear h4 HL0)
     | (at_builtin; refine wpList_app_row rfl _ _ 77 rfl Tryz.underlying77 _ ([] ++ raw.take i) rfl (H4.out.gr ((Gr.refl w4).alloc (.cells #[.slice xa xn xc, .slice fa fn fc, .int .i64 y] 81))) _ (Rw.mk xa xn xc fa fn fc y) rfl (row_box' _ _ _ _ _ _ _ rfl) HKc.out ?_; intro v8 w5 h5 _; have H5 := Lh h5; clear h5 H4)
     | (at_builtin; go_must (refine wpList_cat_rows rfl _ _ 77 rfl Tryz.underlying77 _ (([] ++ raw.take i) ++ [Rw.mk xa xn xc fa fn fc y]) rfl H5.out _ 0 _ [] rfl (RdR.nil (fun e => by simp at e) (by have := HRT.out.2.2.1; omega)) HKd.out ?_); intro v7 w6 h6 _; have H6 := Lh h6; clear h6))
    go_ret
    have hg := GA.out.trans (HSS.out.trans H6.out.2)
    refine ⟨v7, _, rfl, OwnR.base H6.out (HO.out.2.trans HSS.out), ?_, Gr.grownBy hg _, .inr fun k hk => Nat.le_trans (GA.out.trans HSS.out).size (H6.out.1.lt k hk).1⟩
    rw [HP.out]
    have hdr : T.drop i = [] := List.drop_eq_nil_of_le (by have := HN.out.2; omega)
    rw [hdr]
    have hfin := (((Dat.take HD.out i).append ((Dat.nil w0 wA).snoc (x := Rw.mk xa xn xc fa fn fc y) (r := (rv, (rL, y))) HX1.out HX2.out HX3.out)).append (Dat.nil w0 wA)).gr (HSS.out.trans H6.out.2)
    simp only [List.nil_append, List.append_nil] at hfin ⊢
    exact hfin
theorem tooMuch_any (how : Int) (hh : how = 2 ∨ how = 3) {mul : SL × Int → SL × Int → SL × Int} {st : SL × Int → Bool} (w0 w : World) (v : Value) (raw : List Rw) (T : Tbl (SL × Int))
  (hO : OwnR w0 w v raw) (hD : Dat w0 w raw T) (hT : T.length ≤ 10000) :
  Calls Tryz.prog 85 #[v, .int .i64 how] w (RetB (!okT (RgH how mul st) T) w) := by
 obtain ⟨ra, rc, rfl, hR⟩ := hO.rd
 have HR := Lh hR
 have HD := Lh hD
 have HN := Lh (And.intro hT hD.1)
 have HF := Lh (show ∀ d : SL × Int, (RgH how mul st).fits d = !decide (MX < d.2) from fun d => by
  show fitsH how d = _
  unfold fitsH
  rw [decide_eq_false (show ¬ how = 1 by omega)]
  rfl)
 have hw1 : (how == 1) = false := by simp; omega
 clear hO hR hD hT hh
 generalize raw.length = n at *
 go_enter Tryz.func85, Tryz.ntmps85
 go_wp2_with fail
 go_loopw [9] (fun si wr => ∃ i : Nat, i ≤ n ∧ si = .int .i64 i ∧ Hid (∀ j q, j < i → T[j]? = some q → (RgH how mul st).fits q.2 = true) ∧ Hid (Gr w wr)) (fun si _ => n - (intOf si).toNat)
 case atStart => exact ⟨0, Nat.zero_le _, rfl, Lh (fun j _ hj => absurd hj (Nat.not_lt_zero j)), Lh (Gr.refl w)⟩
 case round =>
  obtain ⟨i, hi, rfl, HJ, HG⟩ := hrel
  have w9 := Lh (show wrap64 ((i : Int) + 1) = ((i + 1 : Nat) : Int) by rw [IntWalk.wrap64_in _ (by have := HN.out; omega)]; omega)
  by_cases hlt : i < n
  ·have i1 : (i : Int) < (n : Int) := by omega
   obtain ⟨b, o, z, rfl, hz, z0, z1, z2⟩ := (HR.out.gr HG.out).at hlt
   obtain ⟨q, hq, _, _, d3⟩ := HD.out.at hz
   have hzy : z.y = q.2.2 := d3.2.2
   have Hlt := Lh hlt
   have HQ := Lh hq
   clear hz hlt d3 hq
   by_cases hb : MX < z.y
   ·have k1 : decide (1000000000000000 < z.y) = true := decide_eq_true hb
    have HE := Lh (show okT (RgH how mul st) T = false by
     unfold okT
     rw [show (T.all fun x => (RgH how mul st).fits x.2) = false by
      rw [List.all_eq_false]
      exact ⟨q, List.mem_of_getElem? HQ.out, by rw [HF.out, ← hzy, decide_eq_true hb]; decide⟩]
     simp)
    clear hb hzy HJ
    go_wp2_with fail
    go_ret
    rw [HE.out]
    exact ⟨rfl, HG.out.trans ((Gr.refl _).alloc _)⟩
   have k1 : decide (1000000000000000 < z.y) = false := decide_eq_false hb
   have HJn := Lh (show ∀ j p, j < i + 1 → T[j]? = some p → (RgH how mul st).fits p.2 = true from fun j p hj hp => by
    rcases Nat.lt_succ_iff_lt_or_eq.1 hj with h | rfl
    ·exact HJ.out j p h hp
    rw [HQ.out] at hp; cases hp; rw [HF.out, ← hzy, decide_eq_false hb]; rfl)
   have e9 := w9.out
   clear hb hzy HJ
   go_wp2_with fail
   go_roundw
   case rel => exact ⟨i + 1, Hlt.out, by first | rw [e9] | rfl, HJn, Lh (HG.out.trans ((Gr.refl _).alloc _))⟩
   case measure => first | (rw [e9]; exact fallX Hlt.out) | exact fallX Hlt.out
  obtain rfl : i = n := by omega
  have i1 : ¬ (i : Int) < (i : Int) := by omega
  have HE := Lh (show okT (RgH how mul st) T = decide (i ≤ 60) by
   unfold okT
   have hl : T.length = i := HN.out.2.symm
   rw [show (T.all fun x => (RgH how mul st).fits x.2) = true by
    rw [List.all_eq_true]
    intro x hx
    obtain ⟨j, hj, rfl⟩ := List.getElem_of_mem hx
    exact HJ.out j _ (by omega) (List.getElem?_eq_getElem hj), hl]
   simp)
  clear hlt HJ
  by_cases h60 : 60 < i
  ·have k1 : decide (60 < (i : Int)) = true := decide_eq_true (by omega)
   have k2 : decide (60 < i) = true := decide_eq_true h60
   have HE2 := Lh (show okT (RgH how mul st) T = false by rw [HE.out]; exact decide_eq_false (by omega))
   clear h60
   go_wp2_with fail
   go_ret
   rw [HE2.out]
   exact ⟨by first | rfl | simp [k1, k2], HG.out⟩
  have k1 : decide (60 < (i : Int)) = false := decide_eq_false (by omega)
  have k2 : decide (60 < i) = false := decide_eq_false h60
  have HE2 := Lh (show okT (RgH how mul st) T = true by rw [HE.out]; exact decide_eq_true (by omega))
  clear h60
  go_wp2_with fail
  go_ret
  rw [HE2.out]
  exact ⟨by first | rfl | simp [k1, k2], HG.out⟩
end Go.Proofs.YtehdemcfeoiecaaGreatDoor
