import Derived.Test.YtehdemcfeoiecaaGreatDoorN5
import Derived.Test.YtehdemcfeoiecaaGreatDoorN8
import Derived.Test.YtehdemcfeoiecaaGreatDoorM00
set_option maxHeartbeats 64000000
set_option maxRecDepth 100000
namespace Go.Proofs.YtehdemcfeoiecaaGreatDoor
open Go.RowKit Go.Firn Go.Firn.Tb
theorem tokB_at : ∀ k : Nat, k < 8 → (⟨#[97, 98, 99, 100, 101, 102, 103, 104]⟩ : ByteArray).extract k (k + 1) = ⟨#[UInt8.ofNat (97 + k)]⟩ := by decide +kernel
theorem refcost_row {W : World} {a a' : Option Addr} {n c m c' : Nat} {L : SL} {l : Nat → Int} (hm : m ≤ 9223372036854775807) (hr : RdP W a n c L) (h0 : G0 L) (hl : RdI W a' m l) (hb : nmB l m 1000 = true) : Calls Tryz.prog 34 #[.slice a n c, .slice a' m c'] W (RetNE (cosQ l L) 0 W) := by
 obtain ⟨rfl, h1, h2, -, h3⟩ := hr
 have := refCost_any a a' L.length c m c' (sx L) (sy L) l W (by omega) (size_row h0.1) hm h3 hl
 have hs : vS (sx L) (sy L) L.length = true := h0.1
 have hn : ¬ L.length = 0 := fun k => h0.2 (List.length_eq_zero_iff.1 k)
 simpa only [CsN, CsE, cosQ, if_pos hs, if_pos hb, if_neg hn] using this
theorem SzWs.of {Ts : List (Int × Tbl SL)} (h : vTabs Ts = true) : SzWs Ts := fun x hx => by
 obtain ⟨h1, h2⟩ := vTab_TG ((vTabs_iff.1 h).1 x hx)
 have hw := h1.w1
 refine ⟨WalkArith.wf_i64 (by omega), fun r hr => ⟨fun v hv => ?_, fun y hy => ?_⟩⟩
 ·have := h2 r hr v hv
  exact WalkArith.wf_i64 (by omega)
 ·obtain ⟨k1, k2⟩ := vL_iff.1 (h1.gd r hr).1
  have := (over_iff.1 k2).1 y hy
  have hp := k1.2.1 y hy
  exact ⟨by omega, WalkArith.wf_i64 (by omega)⟩
theorem resQ_errT {D : Type} {R : Rg D} {φ : SL → D} {Ts : List (Int × Tbl SL)} {q : Key} {E : Int} (hv : vTabs Ts = true) (h : resQ R φ true Ts q = .error E) : E = 91 ∨ E = 4 := by
 unfold resQ at h
 rw [if_pos hv] at h
 split at h
 ·cases h; exact .inl rfl
 ·rw [if_pos rfl] at h
  split at h
  ·cases h; exact .inr rfl
  ·cases h
theorem u8_mod {x : Int} (h : (Lit.int .u8 x).wf = true) : ∃ k : Nat, k < 8 ∧ x.tmod 8 = (k : Int) ∧ 0 ≤ x ∧ x ≤ 255 := by
 have hx2 : 0 ≤ x ∧ x ≤ 255 := by
  unfold Lit.wf at h
  simp [IntKind.min, IntKind.max, IntKind.signed, IntKind.bits] at h
  omega
 have e : x.tmod 8 = ((x.tmod 8).toNat : Int) := by rw [Int.tmod_eq_emod_of_nonneg hx2.1]; omega
 exact ⟨(x.tmod 8).toNat, by rw [Int.tmod_eq_emod_of_nonneg hx2.1] at e ⊢; omega, e, hx2.1, hx2.2⟩
namespace topProv
def RetOk (w : World) (e : Ending) (w' : World) : Prop := e = .returned (.bool true) ∧ Gr w w'
theorem walk (a : Option Addr) (n c : Nat) (Ts : List (Int × Tbl SL)) (q : ByteArray) (a1 : Option Addr) (m1 d1 : Nat) (l1 : Nat → Int) (a2 : Option Addr) (m2 d2 : Nat) (l2 : Nat → Int) (x : Int) (w : World) (hr : RdWs w a n c Ts) (hz : SzWs Ts) (hq : q.size ≤ 9223372036854775807) (hm1 : m1 ≤ 9223372036854775807) (_hc1 : m1 ≤ d1) (hl1 : RdI w a1 m1 l1) (hm2 : m2 ≤ 9223372036854775807) (_hc2 : m2 ≤ d2) (hl2 : RdI w a2 m2 l2) (hx : (Lit.int .u8 x).wf = true) (hT : Pow10 w) (hE : Errs w) :
 Calls Tryz.prog 8 #[.slice a n c, .string q, .slice a1 m1 d1, .slice a2 m2 d2, .int .u8 x] w (RetOk w) := by
 have C9 := Lh (Wide_some a n c Ts w hr)
 have C11 := Lh Awake_any
 have C23 := Lh (fun W (k : Gr w W) => refValid_any a n c Ts W (hr.gr k) hz)
 have C30 := Lh (fun W (k : Gr w W) => AreNumbers_any a1 m1 d1 l1 10 W hm1 (hl1.gr k))
 have D30 := Lh (fun W (k : Gr w W) => AreNumbers_any a2 m2 d2 l2 1000 W hm2 (hl2.gr k))
 have C18 := Lh (fun W (k : Gr w W) => Ask_any a n c Ts q W (hr.gr k) hz hq (hT.gr k) (hE.gr k))
 have HL1 := Lh hl1
 have HL2 := Lh hl2
 have HR := Lh hr
 have HT := Lh hT
 have HE := Lh hE
 have HM := Lh (And.intro hm1 (And.intro hm2 (And.intro hz hq)))
 have HX := Lh hx
 have HQs : q.size ≤ 9223372036854775807 := hq
 obtain ⟨bq, hbq⟩ : ∃ b, decide ((300 : Int) < (q.size : Int)) = b := ⟨_, rfl⟩
 clear hr hz hq hm1 hl1 hm2 hl2 hT hE hx
 go_enter Tryz.func8, Tryz.ntmps8
 cases bq
 all_goals
  go_wp2_with (first
   | (go_at_call 9; (refine C9.out.mono ?_); rintro e w1 ⟨b, rfl, g1⟩; have G1 := Lh g1; clear g1 C9; cases b)
   | (go_at_call 23; (with_reducible refine (C23.out _ G1.out).mono ?_); rintro e w2 ⟨rfl, g2⟩; replace G1 := Lh (G1.out.trans g2); clear g2 C23; cases hv : vTabs Ts <;> (have HV := Lh hv; clear hv))
   | (go_at_call 30; (with_reducible refine (C30.out _ G1.out).mono ?_); rintro e w2 ⟨rfl, g2⟩; replace G1 := Lh (G1.out.trans g2); clear g2 C30; cases hv : nmB l1 m1 10 <;> (have HN1 := Lh hv; clear hv))
   | (go_at_call 30; (with_reducible refine (D30.out _ G1.out).mono ?_); rintro e w2 ⟨rfl, g2⟩; replace G1 := Lh (G1.out.trans g2); clear g2 D30; cases hv : nmB l2 m2 1000 <;> (have HN2 := Lh hv; clear hv))
   | (go_at_call 11; (refine (C11.out _).mono ?_); rintro e w9 ⟨rfl, g9⟩; have G9 := Lh (G1.out.trans g9); clear g9))
  all_goals try (go_ret; exact ⟨rfl, G9.out⟩)
 cases hres : resQ RgS (fun L => L) true Ts q.data.toList with
 | error E =>
  rw [hres] at C18
  have hE0 := resQ_errT HV.out hres
  clear hres
  rcases hE0 with rfl | rfl
  all_goals
   go_wp2_with (first
    | (go_at_call 18; (refine (C18.out _ G1.out).mono ?_); rintro e w4 ⟨rfl, g4⟩; have G4 := Lh (G1.out.trans g4); clear g4 C18)
    | (go_at_call 11; (refine (C11.out _).mono ?_); rintro e w9 ⟨rfl, g9⟩; have G9 := Lh ((G4.out.trans ((Gr.refl w4).alloc _)).trans g9); clear g9))
   all_goals (go_ret; exact ⟨rfl, G9.out⟩)
 | ok y =>
  obtain ⟨T, Wd⟩ := y
  rw [hres] at C18
  obtain ⟨k, hk, hxk, hx0, hx1⟩ := u8_mod HX.out
  obtain ⟨tk, htk⟩ : ∃ tk : UInt8, tk = UInt8.ofNat (97 + k) := ⟨_, rfl⟩
  have htn : tk.toNat = 97 + k := by rw [htk, UInt8.toNat_ofNat_of_lt' (by show 97 + k < 256; omega)]
  have ht : tok tk := by unfold tok; omega
  have hn := tokB_at k hk
  rw [← htk] at hn
  obtain ⟨h8, -⟩ := nmB_at HN1.out
  subst h8
  obtain ⟨b3, o3, rfl, hc3⟩ := HL1.out.at (show 0 < 8 by omega)
  have hv' := wo_valid (c := tk) HV.out
  have hres' := wo_answer (c := tk) hres
  have hll := lost_len tk T
  have CW := Lh (fun W (g : Gr w W) => Without_any a n c Ts tk W (HR.out.gr g) HM.out.2.2.1 HV.out ht)
  have E23 := Lh (fun a' n' c' W (h : RdWs W a' n' c' (woT tk Ts)) => hv' ▸ refValid_any a' n' c' (woT tk Ts) W h (SzWs.of hv'))
  have E18 := Lh (fun a' n' c' W (h : RdWs W a' n' c' (woT tk Ts)) (g : Gr w W) => hres' ▸ Ask_any a' n' c' (woT tk Ts) q W h (SzWs.of hv') HQs (HT.out.gr g) (HE.out.gr g))
  have C27 := Lh (fun W (g : Gr w W) => Lost_ok a n c Ts q tk T Wd W (HR.out.gr g) HM.out.2.2.1 HQs ht hres (HT.out.gr g) (HE.out.gr g))
  have N1 := Lh (fun va n0 vc W (g : Gr w W) (h : RdW W va n0 vc T) => numb_any a n c Ts q Wd va n0 vc T (some ⟨b3, o3, none⟩) 8 d1 l1 W (HR.out.gr g) HM.out.2.2.1 HQs (by omega) (HL1.out.gr g) HN1.out h hres (HT.out.gr g) (HE.out.gr g))
  have N2 := Lh (fun va n0 vc gx cx W (g : Gr w W) (h : RdW W va n0 vc T) (hl : RdI W gx 8 (zeroAt k l1)) => numb_any a n c Ts q Wd va n0 vc T gx 8 cx (zeroAt k l1) W (HR.out.gr g) HM.out.2.2.1 HQs (by omega) hl (zero_nm HN1.out) h hres (HT.out.gr g) (HE.out.gr g))
  have N3 := Lh (fun a' n' c' va n0 vc W (g : Gr w W) (hr : RdWs W a' n' c' (woT tk Ts)) (h : RdW W va n0 vc (red RgS (sprL tk) T)) => numb_any a' n' c' (woT tk Ts) q Wd va n0 vc (red RgS (sprL tk) T) (some ⟨b3, o3, none⟩) 8 d1 l1 W hr (SzWs.of hv') HQs (by omega) (HL1.out.gr g) HN1.out h hres' (HT.out.gr g) (HE.out.gr g))
  have C16 := Lh (costs_three (a := a) (n := n) (c := c) (a' := a2) (c' := d2) HM.out.2.1 HM.out.2.2.1 HM.out.2.2.2 HN2.out hres)
  have HTI := Lh (vTab_TG (ans_valid hres)).1
  have HC3 := Lh hc3
  have w1' : IntKind.i64.wrap x = x := IntWalk.i64_in _ (by omega)
  have k1' : (k : Int) + 1 ≤ 8 := by omega
  have k2' : IntKind.i64.wrap ((k : Int) + 1) = ((k + 1 : Nat) : Int) := by rw [IntWalk.i64_in _ (by omega)]; omega
  have Hll := Lh hll
  have Hk := Lh hk
  generalize hT' : red RgS (sprL tk) T = T' at *
  generalize hTs' : woT tk Ts = Ts' at *
  generalize hlo : lostL tk T = lo at *
  clear hres hres' hv' hll htk htn ht hc3 hT' hTs' hlo hx0 hx1
  go_upto_region 8 with (go_at_call 18; (refine (C18.out _ G1.out).mono ?_); rintro e w4 ⟨v, raw, rfl, ho, hd⟩; have G4 := Lh (G1.out.trans ho.2); obtain ⟨va, vc, rfl, hrd⟩ := ho.rd; have HW := Lh (RdW.of_rows hrd hd); generalize raw.length = n0 at *; obtain ⟨wB, hwB⟩ : ∃ W, w4.alloc (.cells #[.int .i64 Wd, .slice va n0 vc] 36) = W := ⟨_, rfl⟩; have gB : Gr w4 wB := hwB ▸ (Gr.refl w4).alloc _; obtain ⟨k0, k1⟩ : wB.cell? ⟨w4.heap.size, 0, none⟩ = some (.int .i64 Wd) ∧ wB.cell? ⟨w4.heap.size, 1, none⟩ = some (.slice va n0 vc) := hwB ▸ box_is w4 Wd _ 36; have GB := Lh (G4.out.trans gB); have HB := Lh gB; clear ho hd hrd C18 gB)
  go_upto_region 9 with (at_builtin; refine wpList_cat_int (w0 := wB) rfl _ _ 23 3 rfl Tryz.underlying23 Tryz.info3 _ rfl (World.ownsRow_lit wB #[] 0 (Nat.le_refl _) (by unfold maxLen; omega) rfl) ((Gr.refl wB).alloc _) b3 o3 8 d1 l1 rfl (fun i hi => (GB.out.alloc _).cell (HC3.out i hi)) (by omega) ?_; intro v1 w10 hown; obtain ⟨gx, cx, rfl, x1, x2, x3⟩ := OwnI.eight hown; have X1 := Lh x1; have X3 := Lh x3; have GN := Lh hown.2; clear hown x1 x2 x3)
  obtain ⟨y0, y1⟩ := X3.out k Hk.out
  have hR1 := rd_zero (fun i hi => (X3.out i hi).1) Hk.out
  have gS : Gr wB (w10.setCell ⟨gx, k, none⟩ (.int .i64 0)) := GN.out.setCell (p := ⟨gx, k, none⟩) X1.out _
  obtain ⟨wS, hwS⟩ : ∃ W, w10.setCell ⟨gx, k, none⟩ (.int .i64 0) = W := ⟨_, rfl⟩
  rw [hwS] at hR1 gS
  have R1 := Lh hR1
  have HS := Lh (HB.out.trans gS)
  have GS := Lh (GB.out.trans gS)
  replace k0 := gS.cell k0
  replace k1 := gS.cell k1
  have k3' : (k : Int) < 8 := by have := Hk.out; omega
  obtain ⟨nT, hnT⟩ : ∃ nT, T'.length = nT := ⟨_, rfl⟩
  have HnT := Lh hnT
  have i2 : wrap64 ((nT : Int) + (lo.length : Int)) = (n0 : Int) := by rw [IntWalk.wrap64_in _ (by have := Hll.out; have := HTI.out.len; omega)]; have := Hll.out; have := HW.out.1; omega
  clear hR1 gS X1 X3 GN HC3 w1' k1' k2' hxk hk hn hnT
  go_wp2_with (first
   | (go_at_call 25; (refine (CW.out _ GS.out).mono ?_); rintro e w11 ⟨ta, tn, tc, rfl, u1, g⟩; have U := Lh u1; have G := Lh (GS.out.trans g); have H := Lh (HS.out.trans g); replace R1 := Lh (R1.out.gr g); replace k0 := g.cell k0; replace k1 := g.cell k1; clear g u1 CW)
   | (go_at_call 23; (refine (E23.out _ _ _ _ U.out).mono ?_); rintro e w12 ⟨rfl, g⟩; replace U := Lh (U.out.gr g); replace G := Lh (G.out.trans g); replace H := Lh (H.out.trans g); replace R1 := Lh (R1.out.gr g); replace k0 := g.cell k0; replace k1 := g.cell k1; clear g E23)
   | (go_at_call 18; (refine (E18.out _ _ _ _ U.out G.out).mono ?_); rintro e w13 ⟨v, raw, rfl, ho, hd⟩; obtain ⟨oa, oc, rfl, hrd⟩ := ho.rd; have OW := Lh (RdW.of_rows hrd hd); generalize raw.length = no at *; obtain rfl : nT = no := (by rw [OW.out.1]; exact HnT.out.symm); obtain ⟨wD, hwD⟩ : ∃ W, w13.alloc (.cells #[.int .i64 Wd, .slice oa nT oc] 36) = W := ⟨_, rfl⟩; have gD : Gr w13 wD := hwD ▸ (Gr.refl w13).alloc _; obtain ⟨j0, j1⟩ : wD.cell? ⟨w13.heap.size, 0, none⟩ = some (.int .i64 Wd) ∧ wD.cell? ⟨w13.heap.size, 1, none⟩ = some (.slice oa nT oc) := hwD ▸ box_is w13 Wd _ 36; have g := ho.2.trans gD; replace OW := Lh (OW.out.gr gD); replace U := Lh (U.out.gr g); replace G := Lh (G.out.trans g); replace H := Lh (H.out.trans g); replace R1 := Lh (R1.out.gr g); replace k0 := g.cell k0; replace k1 := g.cell k1; have CL := Lh (fun W (g : Gr wD W) => And.intro (g.cell k0) (And.intro (g.cell k1) (And.intro (g.cell j0) (g.cell j1)))); have D := Lh (Gr.refl wD); clear g gD ho hd hrd E18)
   | (go_at_call 27; (refine (C27.out _ (G.out.trans D.out)).mono ?_); rintro e w14 ⟨la, ln, lc, rfl, hl, g⟩; obtain rfl : lo.length = ln := hl.1.symm; replace D := Lh (D.out.trans g); clear k0 k1 j0 j1; obtain ⟨k0, k1, j0, j1⟩ := CL.out _ D.out; clear g hl C27))
  go_wp2_with (first
   | (go_at_call 33; (with_reducible refine (N1.out _ _ _ _ (G.out.trans D.out) (HW.out.gr (H.out.trans D.out))).mono ?_); rintro e w15 ⟨rfl, g⟩; replace D := Lh (D.out.trans g); clear k0 k1 j0 j1; obtain ⟨k0, k1, j0, j1⟩ := CL.out _ D.out; clear g N1)
   | (go_at_call 33; (with_reducible refine (N2.out _ _ _ _ _ _ (G.out.trans D.out) (HW.out.gr (H.out.trans D.out)) (R1.out.gr D.out)).mono ?_); rintro e w16 ⟨rfl, g⟩; replace D := Lh (D.out.trans g); clear k0 k1 j0 j1; obtain ⟨k0, k1, j0, j1⟩ := CL.out _ D.out; clear g N2)
   | (go_at_call 33; (with_reducible refine (N3.out _ _ _ _ _ _ _ (G.out.trans D.out) (U.out.gr D.out) (OW.out.gr D.out)).mono ?_); rintro e w17 ⟨rfl, g⟩; replace D := Lh (D.out.trans g); clear k0 k1 j0 j1; obtain ⟨k0, k1, j0, j1⟩ := CL.out _ D.out; clear g N3)
   | (go_at_call 16; (with_reducible refine (C16.out _ (HR.out.gr (G.out.trans D.out)) (HL2.out.gr (G.out.trans D.out)) (HT.out.gr (G.out.trans D.out)) (HE.out.gr (G.out.trans D.out))).mono ?_); rintro e w18 ⟨ya, yn, yc, ba, bn, bc, rfl, h1, h2, g⟩; have Y1 := Lh h1; have Y2 := Lh h2; obtain rfl : n0 = yn := (by rw [h1.1, HW.out.1]; simp [mapT]); obtain rfl : n0 = bn := (by rw [h2.1, HW.out.1]; simp [mapT]); replace D := Lh (D.out.trans g); clear k0 k1 j0 j1; obtain ⟨k0, k1, j0, j1⟩ := CL.out _ D.out; clear g h1 h2 C16))
  replace G := Lh (G.out.trans D.out)
  replace H := Lh (H.out.trans D.out)
  clear U R1 OW j0 j1 CL D
  go_loopw [173] (fun s wr => ∃ i : Nat, i ≤ n0 ∧ s = .int .i64 i ∧ Hid (Gr w18 wr)) (fun s _ => n0 - (intOf s).toNat)
  case atStart => exact ⟨0, Nat.zero_le _, rfl, Lh (Gr.refl _)⟩
  case round =>
   obtain ⟨i, hi, rfl, HG⟩ := hrel
   clear k0 k1
   by_cases hlt : i < n0
   ·have i1 : (i : Int) < (n0 : Int) := by omega
    obtain ⟨b, o, r, x1, x1n, x1c, y1, y1n, y1c, rfl, hx, e1, e2, xr', xp'⟩ := HW.out.at hlt
    obtain ⟨L1, L2⟩ := r
    have g46 := H.out.trans HG.out
    have xr := Lh (xr'.gr g46)
    have xp := Lh (xp'.gr g46)
    replace e1 := g46.cell e1
    replace e2 := g46.cell e2
    obtain ⟨wA, hwA⟩ : ∃ wA, wr.alloc (.cells #[.slice x1 x1n x1c, .slice y1 y1n y1c] 52) = wA := ⟨_, rfl⟩
    have gA : Gr wr wA := hwA ▸ (Gr.refl wr).alloc _
    obtain ⟨z0, z1⟩ : wA.cell? ⟨wr.heap.size, 0, none⟩ = some (.slice x1 x1n x1c) ∧ wA.cell? ⟨wr.heap.size, 1, none⟩ = some (.slice y1 y1n y1c) := hwA ▸ box_vv wr _ _ 52
    have HA := Lh gA
    have HG0 := Lh (HTI.out.gd _ (List.mem_of_getElem? hx))
    obtain ⟨nc', hnc⟩ : ∃ nc, cosQ l2 L2 = nc := ⟨_, rfl⟩
    have C34 := Lh (fun W1 (g : Gr wr W1) => show Calls Tryz.prog 34 #[.slice y1 y1n y1c, .slice a2 m2 d2] W1 (RetNE nc' 0 W1) from hnc ▸ refcost_row HM.out.2.1 (xp.out.gr g) HG0.out (HL2.out.gr (G.out.trans (HG.out.trans g))) HN2.out)
    obtain ⟨b5, o5, rfl, hc5⟩ := Y2.out.2.2.2.2.at hlt
    have z5 := (HG.out.trans gA).cell (hc5 i hlt)
    rw [iv_some (L := (mapT (cosQ l2) T).map (·.2)) (i := i) (x := nc') (by simp [mapT, hx, hnc])] at z5
    obtain ⟨b6, o6, M, p1, pn, pc, rfl, hM, z6, r6⟩ := Y1.out.at hlt
    obtain rfl : M = L1 := by simp [mapT, hx] at hM; exact hM.symm
    replace z6 := (HG.out.trans gA).cell z6
    have CS := Lh (fun W (g : Gr wr W) => SameInts_eq p1 pn pc x1 x1n x1c M W (r6.gr (HG.out.trans g)) (xr.out.gr g))
    have Hlt := Lh hlt
    have HW9 := Lh (show wrap64 ((i : Int) + 1) = ((i + 1 : Nat) : Int) by rw [IntWalk.wrap64_in _ (by have := HTI.out.len; have := HW.out.1; omega)]; omega)
    clear hx hM hc5 r6 xr' xp' hnc g46 gA hlt
    go_upto_region 26 with (go_at_call 34; (with_reducible refine (C34.out _ HA.out).mono ?_); rintro e w7 ⟨rfl, g7⟩; have H7' := Lh (HA.out.trans g7); replace z0 := g7.cell z0; replace z5 := g7.cell z5; replace z6 := g7.cell z6; clear g7 C34)
    refine Hg (fun w' => Gr w7 w') 20 ?_
    have hS : Gr w7 w7.drew := (Gr.refl w7).drew
    obtain ⟨wT, hw9⟩ : ∃ W9, w7.drew = W9 := ⟨_, rfl⟩
    rw [hw9] at hS ⊢
    clear hw9
    refine H12 0 1 2 3 4 5 6 7 8 9 10 11 (c3 z0 z5 z6) hS ?_; refine H5 12 13 14 15 16 (c3 z0 z5 z6) hS ?_
    refine Hr 17 rfl (fun K hK => ?_)
    go_simp
    refine ⟨trivial, ?_⟩
    refine (callsIn_wide.2 (CS.out _ (H7'.out.trans hS))).mono ?_
    rintro e w8 ⟨rfl, g8⟩
    have hS : Gr w7 w8 := hS.trans g8
    refine hK.out _ _ hS ?_
    clear hK K g8 CS
    refine H2 18 19 tv hS ?_
    refine Hd ?_
    have H8' := Lh (HG.out.trans (H7'.out.trans hS))
    clear hS z5 z6 z0 z1 e1 e2
    go_wp2_with fail
    go_roundw
    case rel => exact ⟨i + 1, Hlt.out, by first | rw [HW9.out] | rfl, H8'⟩
    case measure => first | (rw [HW9.out]; exact fallY Hlt.out) | exact fallY Hlt.out
   ·obtain rfl : i = n0 := by omega
    have i1 : ¬ (i : Int) < (i : Int) := by omega
    have GG := Lh (G.out.trans HG.out)
    clear hlt
    go_wp2_with (go_at_call 11; (refine (C11.out _).mono ?_); rintro e w9 ⟨rfl, g9⟩; have G9 := Lh (GG.out.trans g9); clear g9)
    go_ret
    exact ⟨rfl, G9.out⟩
end topProv
end Go.Proofs.YtehdemcfeoiecaaGreatDoor
