import Derived.Test.YtehdemcfeoiecaaGreatDoorN6
set_option maxHeartbeats 64000000
set_option maxRecDepth 100000
namespace Go.Proofs.YtehdemcfeoiecaaGreatDoor
open Go.RowKit Go.Firn Go.Firn.Tb
theorem grB {w w' : World} (g : Gr w w') (r : Option Nat) : w.grownBy w' r := ⟨g.os, g.tape, g.output, Gr.size g, fun k hk _ => Below.block g k hk⟩
theorem grT {A B C : World} {r : Option Nat} (h : A.grownBy B r) (k : B.grownBy C r) : A.grownBy C r :=
 ⟨k.os.trans h.os, k.tape.trans h.tape, k.output.trans h.output, Nat.le_trans h.size k.size, fun j hj hne => (k.block j (Nat.lt_of_lt_of_le hj h.size) hne).trans (h.block j hj hne)⟩
theorem RW.app_in {F : Fence} {n : Nat} {o : Oper} {a : Act} {K : Act → World → Prop} {Q : Exit → Act → World → Prop} (s x : Operand) (t : TypeId)
 (ho : o.op = .call { callee := .builtin .append, args := #[s, x], argTypes := #[t, t] }) (ht : Tryz.prog.underlying t = some (.slice 52))
 {w0 w : World} (v : Value) (raw : List RW.Rw) (hs : a.eval s = v) (hown : RW.OwnR w0 w v raw)
 (g : Nat) (r : RW.Rw) (hx : a.eval x = .slice (some ⟨g, 0, none⟩) 1 1) (hg : w.cell? ⟨g, 0, none⟩ = some (.slice r.a r.n r.c) ∧ w.cell? ⟨g, 1, none⟩ = some (.slice r.fa r.fn r.fc)) (hk : raw.length < 999999)
 (h : ∀ v' w', RW.OwnR w0 w' v' (raw ++ [r]) → w.grownBy w' v.ownBlock → K (a.put o.dst v') w') : o.wpIn F n Tryz.prog a w K Q := by
 obtain ⟨i0, hi, hz0, hz1, hz2⟩ := RW.info_row
 obtain ⟨v', w', hrun, r1, r2, _⟩ := run_append_own (P := Tryz.prog) w w0.heap.size t o.type 52 i0 _ 2 48 ht hi hz0 hz1 hz2 rfl (by decide) v raw.length (RW.pkr raw) hown.1 ⟨g, 0, none⟩ 1 1 [.slice r.a r.n r.c, .slice r.fa r.fn r.fc] rfl (fun j u hu => by
  rw [add_flat rfl]
  match j, hu with
  | 0, hu => simp at hu; subst hu; exact hg.1
  | 1, hu => simp at hu; subst hu; exact hg.2
  | j + 2, hu => simp at hu) (by simp [Value.oneCell']) (by unfold maxLen; omega) (by omega) hown.2.size
 unfold Oper.wpIn
 refine ⟨?_, ?_⟩
 ·simp [Oper.about, ho, resolve, Target.leads, Sem.run_pure]
 ·rw [Oper.semAt_plain F _ _ (by rw [ho]; intro c hc'; cases hc')]
  simp [execOp, ho, resolve, invoke, builtin, hs, hx, hrun, Result.andThen]
  refine h v' w' ⟨?_, hown.2.grown r2 fun k hk => (hown.1.lt k hk).1⟩ r2
  rw [RW.pkr_append, List.length_append]
  exact r1
theorem RdP.slA {w : World} {a : Option Addr} {n c : Nat} {L : SL} (h : RdP w a n c L) : SlA a n c := by
 cases a with
 | none => have h4 := h.2.2.2.1 rfl; have h2 := h.2.1; exact .inl ⟨rfl, by omega, h4⟩
 | some ad => exact .inr ⟨_, rfl⟩
theorem RW.OwnR.old {w0 w : World} {a : Option Addr} {n c : Nat} {raw : List RW.Rw} (h : RW.OwnR w0 w (.slice a n c) raw) : Old RS.EW w 52 n a := by
 rcases h.blk with ⟨e, _⟩ | ⟨g, c', cur, e, _, _, _, _, hg, _⟩
 ·cases e
  exact .inl rfl
 ·cases e
  exact .inr fun ad e => by
   obtain rfl := Option.some.inj e
   exact .inr ⟨cur, _, hg⟩
theorem red_snoc (tk : UInt8) {T : Tbl SL} {j : Nat} {L1 : List Int} {L2 : SL} (h : T[j]? = some (L1, L2)) : red RgS (sprL tk) (T.take (j + 1)) = red RgS (sprL tk) (T.take j) ++ (if sprL tk L2 = [] then [] else [(L1, sprL tk L2)]) := by
 rw [List.take_add_one, h, show (some (L1, L2)).toList = [(L1, L2)] from rfl, red_app, red_cons]
 by_cases h0 : sprL tk L2 = []
 ·rw [if_pos h0, if_neg (show ¬ RgS.stays (sprL tk L2) = true from fun k => of_decide_eq_true k h0)]
  rfl
 ·rw [if_neg h0, if_pos (show RgS.stays (sprL tk L2) = true from decide_eq_true h0)]
  rfl
def RetS9 (L : SL) (n : Nat) (w : World) (e : Ending) (w' : World) : Prop := ∃ a c, e = .returned (.slice a n c) ∧ RdP w' a n c L ∧ Gr w w' ∧ Old RS.EW w' 58 n a
def RetWo (Ts : List (Int × Tbl SL)) (w : World) (e : Ending) (w' : World) : Prop := ∃ a n c, e = .returned (.slice a n c) ∧ RdWs w' a n c Ts ∧ Gr w w'
theorem without_any (a : Option Addr) (n c : Nat) (Ts : List (Int × Tbl SL)) (tk : UInt8) (w : World) (hr : RdWs w a n c Ts) (hv : vTabs Ts = true) :
 Calls Tryz.prog 63 #[.slice a n c, .string ⟨#[tk]⟩] w (RetWo (woT tk Ts) w) := by
 have HR := Lh hr
 have HV := Lh (fun (i : Nat) x (h : Ts[i]? = some x) => (vTab_TG ((vTabs_iff.1 hv).1 x (List.mem_of_getElem? h))).1)
 have HN := Lh (show n = Ts.length ∧ n ≤ 4 from ⟨hr.1, by rw [hr.1]; exact (vTabs_iff.1 hv).2.2⟩)
 clear hr hv
 go_enter Tryz.func63, Tryz.ntmps63
 go_wp2_with fail
 go_loopw [14, 5] (fun si s5 wr => ∃ (i : Nat) (raw : List RT.Rw), i ≤ n ∧ si = .int .i64 i ∧ Hid (RT.OwnR w wr s5 raw) ∧ Hid (RT.TDat wr raw (woT tk (Ts.take i)))) (fun si _ _ => n - (intOf si).toNat)
 case atStart => exact ⟨0, [], Nat.zero_le _, rfl, Lh (RT.OwnR.nil' (Gr.refl w)), Lh ⟨rfl, fun i x t hx _ => by simp at hx⟩⟩
 case round =>
  obtain ⟨i, raw, hi, rfl, HO, HD⟩ := hrel
  by_cases hlt : i < n
  ·have i1 : (i : Int) < (n : Int) := by omega
   obtain ⟨b, o, r, a1, n1, c1, rfl, hx, k0, k1, hw⟩ := (HR.out.gr HO.out.2).at hlt
   obtain ⟨W, T⟩ := r
   have hG := HV.out i _ hx
   simp only at k0 hw hG
   obtain ⟨wA, hwA⟩ : ∃ W', wr.alloc (.cells #[.int .i64 W, .slice a1 n1 c1] 36) = W' := ⟨_, rfl⟩
   have gA : Gr wr wA := hwA ▸ (Gr.refl wr).alloc _
   obtain ⟨x0, x1⟩ : wA.cell? ⟨wr.heap.size, 0, none⟩ = some (.int .i64 W) ∧ wA.cell? ⟨wr.heap.size, 1, none⟩ = some (.slice a1 n1 c1) := hwA ▸ box_is wr W (.slice a1 n1 c1) 36
   have gB := (Gr.refl wA).alloc (.cells #[.int .i64 W, .slice none 0 0] 36)
   have HB0 := Lh (show BoxO (wA.alloc (.cells #[.int .i64 W, .slice none 0 0] 36)) wA.heap.size W (.slice none 0 0) from heap_alloc_new wA _)
   have HW1 := Lh (hw.gr gA)
   have HGA := Lh gA
   have HGB := Lh gB
   have HG := Lh hG
   have HTk := Lh (show woT tk (Ts.take (i + 1)) = woT tk (Ts.take i) ++ [(W, red RgS (sprL tk) T)] by rw [List.take_add_one, hx]; simp [woT])
   have HN1 := Lh (show n1 = T.length ∧ n1 ≤ 60 from ⟨hw.1, by rw [hw.1]; exact hG.len⟩)
   have Hlt := Lh hlt
   have HW9 := Lh (show wrap64 ((i : Int) + 1) = ((i + 1 : Nat) : Int) by rw [IntWalk.wrap64_in _ (by have := HN.out; omega)]; omega)
   have HRl := Lh (show raw.length < 999999 by have h1 := HD.out.1; unfold woT at h1; rw [List.length_map, List.length_take] at h1; have := HN.out; omega)
   have x2 := gB.cell x1
   clear hx hw hG hlt gA gB
   go_wp2_with fail
   generalize hyb : wA.heap.size = yb at *
   have Hyb := Lh (Nat.le_of_eq hyb)
   go_loopw [24] (fun sj wq => ∃ (j : Nat) (v2 : Value) (raw2 : List RW.Rw), j ≤ n1 ∧ sj = .int .i64 j ∧ Hid (RW.OwnR wA wq v2 raw2) ∧ Hid (RW.Dat RS.EW wq raw2 (red RgS (sprL tk) (T.take j))) ∧ Hid (BoxO wq yb W v2)) (fun sj _ => n1 - (intOf sj).toNat)
   case atStart => exact ⟨0, .slice none 0 0, [], Nat.zero_le _, rfl, Lh (RW.OwnR.nil' HGB.out), Lh (RW.Dat.nil _ _), HB0⟩
   case round =>
    clear HB0 x0 x2
    obtain ⟨j, v2, raw2, hj, rfl, HO2, HD2, HB⟩ := hrel
    by_cases hlj : j < n1
    ·have i2 : (j : Int) < (n1 : Int) := by omega
     obtain ⟨b2, o2, r2, p1, pn, pc, q1, qn, qc, hab, hx2, d1, d2, xr, xp⟩ := (HW1.out.gr HO2.out.2).at hlj
     subst hab
     obtain ⟨L1, L2⟩ := r2
     simp only at xr xp
     have hg0 := HG.out.gd _ (List.mem_of_getElem? hx2)
     have hwd := HG.out.wd _ (List.mem_of_getElem? hx2)
     have hw1 := HG.out.w1
     simp only at hg0 hwd
     obtain ⟨va, vc, rfl, _⟩ := HO2.out.rd
     obtain rfl : L2.length = qn := xp.1.symm
     obtain ⟨wC, hwC⟩ : ∃ W', wr.alloc (.cells #[.slice p1 pn pc, .slice q1 L2.length qc] 52) = W' := ⟨_, rfl⟩
     have gC : Gr wr wC := hwC ▸ (Gr.refl wr).alloc _
     obtain ⟨z0, z1⟩ : wC.cell? ⟨wr.heap.size, 0, none⟩ = some (.slice p1 pn pc) ∧ wC.cell? ⟨wr.heap.size, 1, none⟩ = some (.slice q1 L2.length qc) := hwC ▸ box_vv wr _ _ 52
     have HC := Lh gC
     have hl2 := (over_iff.1 (vL_iff.1 hg0.1).2).2
     have C66 := Lh (fun W' (k : Gr wr W') => show Calls Tryz.prog 66 #[.slice q1 L2.length qc, .string ⟨#[tk]⟩] W' (RetS9 (sprL tk L2) (sprL tk L2).length W') from spared_any q1 qc L2 tk W' (by omega) (RdP.slA xp) (xp.gr k).2.2.2.2)
     have HTj := Lh (red_snoc tk hx2)
     have Hlj := Lh hlj
     have HJ9 := Lh (show wrap64 ((j : Int) + 1) = ((j + 1 : Nat) : Int) by rw [IntWalk.wrap64_in _ (by have := HN1.out; omega)]; omega)
     have C73 := Lh (fun W' (k : Gr wr W') => Clone3_any p1 pn pc L1 W' (xr.gr k) (by have := xr.1; omega) (by have := xr.1; omega))
     have HRl2 := Lh (show raw2.length < 999999 by have h1 := HD2.out.1; have h2 := List.length_filter_le (fun x : List Int × SL => RgS.stays x.2) (mapT (sprL tk) (T.take j)); unfold red at h1; unfold mapT at h1 h2; rw [List.length_map, List.length_take] at h2; have := HN1.out; omega)
     have y1 := (HB.out.gr gC).at1
     clear hx2 xr xp hg0 hwd hw1 hl2 hlj gC
     by_cases hne : sprL tk L2 = []
     ·rw [hne] at C66
      have hTj := HTj.out
      rw [if_pos hne, List.append_nil] at hTj
      have HTj := Lh hTj
      generalize hrl2 : raw2.length = rl2 at *
      clear hne hTj
      go_wp2_with (go_at_call 66; (with_reducible refine (C66.out _ HC.out).mono ?_); rintro e w5 ⟨sa, sc, rfl, _, g5, _⟩; have G5 := Lh (HC.out.trans g5); clear g5 C66)
      go_roundw
      case rel => exact ⟨j + 1, _, raw2, Hlj.out, by first | rw [HJ9.out] | rfl, Lh (HO2.out.gr G5.out), Lh (by rw [HTj.out]; exact HD2.out.gr G5.out), Lh (HB.out.gr G5.out)⟩
      case measure => first | (rw [HJ9.out]; exact fallY Hlj.out) | exact fallY Hlj.out
     ·have hTj := HTj.out
      rw [if_neg hne] at hTj
      have HTj := Lh hTj
      have hp : 0 < (sprL tk L2).length := List.length_pos_iff.2 hne
      generalize hsl : (sprL tk L2).length = sl at *
      have i3 : (0 : Int) < (sl : Int) := by omega
      have HHs := Lh (show raw2.length < 999999 from HRl2.out)
      generalize hrl2 : raw2.length = rl2 at *
      have Hrl2 := Lh hrl2
      clear hne hTj hsl hrl2 HRl2
      go_upto_region 11 with (go_at_call 66; (with_reducible refine (C66.out _ HC.out).mono ?_); rintro e w5 ⟨sa, sc, rfl, p5, g5, o5⟩; have G5 := Lh (HC.out.trans g5); have P5 := Lh (And.intro p5 o5); replace z0 := g5.cell z0; replace y1 := g5.cell y1; clear g5 p5 o5 C66)
      refine (wpIn_wide (n := 3)).1 ?_
      refine wpIn_region_mark (fun w' => w5.grownBy w' (Value.slice va rl2 vc).ownBlock) 10 11 (by kernel_rfl) rfl rfl ?_
      have hG : Gr w5 w5.drew := (Gr.refl w5).drew
      obtain ⟨wT, hw9⟩ : ∃ W9, w5.drew = W9 := ⟨_, rfl⟩
      rw [hw9] at hG ⊢
      clear hw9
      have hS := grB hG (Value.slice va rl2 vc).ownBlock
      have HNe := Lh (show ∀ W', w5.grownBy W' (Value.slice va rl2 vc).ownBlock → W'.cell? ⟨yb, 1, none⟩ = some (.slice va rl2 vc) ∧ W'.cell? ⟨wr.heap.size, 0, none⟩ = some (.slice p1 pn pc) from fun W' g => ⟨g.cell y1 (fun e => HB.out.ne HO2.out e.symm), g.cell z0 (fun e => absurd (HO2.out.1.lt wr.heap.size e.symm).2 (Nat.lt_irrefl _))⟩)
      refine Mk 0 rfl HNe.out hS ?_; refine Mk 1 rfl HNe.out hS ?_; refine Mk 2 rfl HNe.out hS ?_; refine Mk 3 rfl HNe.out hS ?_; refine Mk 5 rfl (fun _ _ => trivial) hS ?_
      refine wpAnyMIn_ready [4] (by kernel_rfl) (by simp) ?_
      refine AllMIn.cons rfl (by rfl) (fun K hK => ?_) AllMIn.nil
      go_simp
      refine ⟨trivial, ?_⟩
      refine (callsIn_wide.2 (C73.out _ (G5.out.trans hG))).mono ?_
      rintro e w6 hr6
      obtain ⟨cb, cc, rfl, cr, co, g6⟩ := hr6.rd
      have hG6 := hG.trans g6
      have hS := grB hG6 (Value.slice va rl2 vc).ownBlock
      refine hK.out _ _ (fun _ => hS) ?_
      clear hK K hr6
      refine Mk 6 rfl (fun _ _ => trivial) hS ?_
      refine wpAnyMIn_ready [7] (by kernel_rfl) (by simp) ?_
      refine AllMIn.cons rfl (by rfl) (fun K hK => ?_) AllMIn.nil
      obtain ⟨wY, hY⟩ : ∃ W9, w6.alloc (.cells #[.slice (some ⟨cb, 0, none⟩) L1.length cc, .slice sa sl sc] 52) = W9 := ⟨_, rfl⟩
      go_simp
      try rw [hY]
      have gY : Gr w6 wY := hY ▸ (Gr.refl w6).alloc _
      obtain ⟨t0, t1⟩ : wY.cell? ⟨w6.heap.size, 0, none⟩ = some (.slice (some ⟨cb, 0, none⟩) L1.length cc) ∧ wY.cell? ⟨w6.heap.size, 1, none⟩ = some (.slice sa sl sc) := hY ▸ box_vv w6 _ _ 52
      have hG7 := hG6.trans gY
      have hS := grB hG7 (Value.slice va rl2 vc).ownBlock
      refine hK.out _ _ (fun _ => hS) ?_
      clear hK K hY
      have g0Y := G5.out.trans hG7
      refine wpAnyMIn_ready [8] (by kernel_rfl) (by simp) ?_
      refine AllMIn.cons rfl (by rfl) (fun K hK => ?_) AllMIn.nil
      refine RW.app_in _ _ 34 rfl Tryz.underlying34 _ raw2 rfl (HO2.out.gr g0Y) w6.heap.size (RW.Rw.mk (some ⟨cb, 0, none⟩) L1.length cc sa sl sc) rfl ⟨t0, t1⟩ (by rw [Hrl2.out]; exact HHs.out) ?_
      intro v6 w7 h6 g7
      obtain ⟨va6, vc6, rfl, _⟩ := h6.rd
      generalize (raw2 ++ [RW.Rw.mk (some ⟨cb, 0, none⟩) L1.length cc sa sl sc]).length = rl6 at *
      have hS := grT hS g7
      refine hK.out _ _ (fun _ => hS) ?_
      clear hK K
      refine Mk 9 rfl (fun _ _ => trivial) hS ?_
      have HB7 := Lh ((HB.out.gr g0Y).grown (HO2.out.gr g0Y) g7)
      obtain ⟨wP, hwP, gP, BP⟩ := HB7.out.put (.slice va6 rl6 vc6)
      have y7 := HB7.out.at1
      have f7 := HB7.out.fz
      refine wpAnyMIn_ready [10] (by kernel_rfl) (by simp) ?_
      refine AllMIn.cons rfl (by rfl) (fun K hK => ?_) AllMIn.nil
      go_simp
      try rw [hwP]
      refine hK.out _ _ (fun e => by first | cases e | simp at e) ?_
      clear hK K
      refine wpAnyMIn_done (by kernel_rfl) ?_ _
      have hd0 : RW.Dat RS.EW w7 (raw2 ++ [RW.Rw.mk (some ⟨cb, 0, none⟩) L1.length cc sa sl sc]) (red RgS (sprL tk) (T.take (j + 1))) := by
       rw [HTj.out]
       exact datW_grown ((HD2.out.gr g0Y).snoc (x := RW.Rw.mk (some ⟨cb, 0, none⟩) L1.length cc sa sl sc) (r := (L1, sprL tk L2)) (cr.gr gY) ((co RS.EW).gr gY) ⟨P5.out.1.gr hG7, P5.out.2.gr hG7⟩) (HO2.out.gr g0Y) g7
      have hd1 := Lh (datW_far hd0 HB7.out gP)
      have ho1 := Lh (ownR_far h6 Hyb.out (HB7.out.ne h6) gP)
      have BP' := Lh BP
      clear hd0 h6 g7 gP BP y7 f7 hwP hS hG hG6 hG7 g0Y gY t0 t1 cr co g6 y1 z0 z1 i3
      go_wp2_with fail
      go_roundw
      case rel => exact ⟨j + 1, _, _, Hlj.out, by first | rw [HJ9.out] | rfl, ho1, hd1, BP'⟩
      case measure => first | (rw [HJ9.out]; exact fallY Hlj.out) | exact fallY Hlj.out
    ·obtain rfl : j = n1 := by omega
     have i2 : ¬ (j : Int) < (j : Int) := by omega
     have hTt : T.take j = T := List.take_of_length_le (by have := HN1.out; omega)
     rw [hTt] at HD2
     obtain ⟨va, vc, rfl, hrd⟩ := HO2.out.rd
     have c0 := HB.out.at0
     have c1 := HB.out.at1
     have gq := HGA.out.trans HO2.out.2
     have HTo := Lh (fun W' (k : Gr wr W') => show RT.TOk W' (RT.Rw.mk W va raw2.length vc) (W, red RgS (sprL tk) T) from RT.TOk.gr ⟨rfl, RW.OwnR.old HO2.out, raw2, hrd, HD2.out⟩ k)
     have HOq := Lh (HO.out.gr gq)
     have HDq := Lh (HD.out.gr gq)
     clear hlj hTt hrd gq
     generalize raw2.length = rl2 at *
     go_wp2_with (at_builtin; go_must (refine RT.wpList_app_row rfl _ _ 22 rfl Tryz.underlying22 _ raw rfl (HOq.out.gr ((Gr.refl wr).alloc _)) wr.heap.size (RT.Rw.mk W va rl2 vc) rfl ⟨by simp, by simp⟩ HRl.out ?_); intro v6 w6 h6 g6; have H6 := Lh h6; have HT6 := Lh (((HDq.out.gr ((Gr.refl wr).alloc (.cells #[.int .i64 W, .slice va rl2 vc] 36))).snoc (HTo.out _ ((Gr.refl wr).alloc _))).grown (HOq.out.gr ((Gr.refl wr).alloc _)) g6); clear h6 g6)
     go_roundw
     case rel => exact ⟨i + 1, _, Hlt.out, by first | rw [HW9.out] | rfl, H6, Lh (by rw [HTk.out]; exact HT6.out)⟩
     case measure => first | (rw [HW9.out]; exact fallY Hlt.out) | exact fallY Hlt.out
  ·obtain rfl : i = n := by omega
   have i1 : ¬ (i : Int) < (i : Int) := by omega
   have hTt : Ts.take i = Ts := List.take_of_length_le (by have := HN.out; omega)
   rw [hTt] at HD
   obtain ⟨a', c', rfl, h⟩ := RT.rdWs_of HO.out HD.out
   have HH := Lh h
   have GO := Lh HO.out.2
   clear hlt hTt h HO
   generalize raw.length = rl at *
   go_wp2_with fail
   go_ret
   exact ⟨_, _, _, rfl, HH.out, GO.out⟩
end Go.Proofs.YtehdemcfeoiecaaGreatDoor
