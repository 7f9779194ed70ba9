/- ProvNumbered: the walk of the law. -/
import Derived.Test.YtehdemcfeoiecaaGreatDoorN2
namespace Go.Proofs.YtehdemcfeoiecaaGreatDoor
open Go.RowKit Go.Firn Go.Firn.Tb

set_option maxHeartbeats 64000000
set_option maxRecDepth 100000
namespace provNumbered
def RetOk (w : World) (e : Ending) (w' : World) : Prop := e = .returned (.bool true) ∧ Gr w w'
theorem walk (a : Option Addr) (n c : Nat) (Ts : List (Int × Tbl SL)) (q : ByteArray) (a1 : Option Addr) (m1 d1 : Nat) (l1 : Nat → Int) (a2 : Option Addr) (m2 d2 : Nat) (l2 : Nat → Int) (w : World) (hr : RdWs w a n c Ts) (hz : SzWs Ts) (hq : q.size ≤ 9223372036854775807) (hm1 : m1 ≤ 9223372036854775807) (_hc1 : m1 ≤ d1) (hl1 : RdI w a1 m1 l1) (hm2 : m2 ≤ 9223372036854775807) (_hc2 : m2 ≤ d2) (hl2 : RdI w a2 m2 l2) (hT : Pow10 w) (hE : Errs w) :
  Calls Tryz.prog 7 #[.slice a n c, .string q, .slice a1 m1 d1, .slice a2 m2 d2] w (RetOk w) := by
 have C9 := Lh (Wide_some a n c Ts w hr)
 have C10 := Lh (fun W => many_any q none 0 0 W)
 have C11 := Lh Awake_any
 have C23 := Lh (fun W (k : Gr w W) => refValid_any a n c Ts W (hr.gr k) hz)
 have C30 := Lh (fun W (k : Gr w W) => AreNumbers_any a1 m1 d1 l1 10 W hm1 (hl1.gr k))
 have D30 := Lh (fun W (k : Gr w W) => AreNumbers_any a2 m2 d2 l2 1000 W hm2 (hl2.gr k))
 have C18 := Lh (fun W (k : Gr w W) => Ask_any a n c Ts q W (hr.gr k) hz hq (hT.gr k) (hE.gr k))
 have HL1 := Lh hl1
 have HL2 := Lh hl2
 have HR := Lh hr
 have HT := Lh hT
 have HE := Lh hE
 have HM := Lh (And.intro hm1 (And.intro hm2 (And.intro hz hq)))
 generalize (decide (300 < q.size) || decide (100 < 0)) = bm at *
 clear hr hz hq hm1 hl1 hm2 hl2 hT hE
 go_enter Tryz.func7, Tryz.ntmps7
 go_wp2_with (first
  | (go_at_call 9; (refine C9.out.mono ?_); rintro e w1 ⟨b, rfl, g1⟩; have G1 := Lh g1; clear g1 C9; cases b)
  | (go_at_call 10; (refine (C10.out _).mono ?_); rintro e w2 ⟨rfl, g2⟩; have G2 := Lh (G1.out.trans g2); clear g2 C10 G1; have G1 := G2; clear G2; cases bm)
  | (go_at_call 23; (refine (C23.out _ G1.out).mono ?_); rintro e w2 ⟨rfl, g2⟩; have G2 := Lh (G1.out.trans g2); clear g2 C23 G1; have G1 := G2; clear G2; cases hv : vTabs Ts <;> (have HV := Lh hv; clear hv))
  | (go_at_call 30; (with_reducible refine (C30.out _ G1.out).mono ?_); rintro e w2 ⟨rfl, g2⟩; have G2 := Lh (G1.out.trans g2); clear g2 C30 G1; have G1 := G2; clear G2; cases hv : nmB l1 m1 10 <;> (have HN1 := Lh hv; clear hv))
  | (go_at_call 30; (with_reducible refine (D30.out _ G1.out).mono ?_); rintro e w2 ⟨rfl, g2⟩; have G2 := Lh (G1.out.trans g2); clear g2 D30 G1; have G1 := G2; clear G2; cases hv : nmB l2 m2 1000 <;> (have HN2 := Lh hv; clear hv))
  | (go_at_call 11; (refine (C11.out _).mono ?_); rintro e w9 ⟨rfl, g9⟩; have G9 := Lh (G1.out.trans g9); clear g9))
 all_goals try (go_ret; exact ⟨rfl, G9.out⟩)
 cases hres : resQ RgS (fun L => L) true Ts q.data.toList with
 | error E =>
  rw [hres] at C18
  have hE0 := resQ_errS hres
  clear hres
  rcases hE0 with rfl | rfl | rfl | rfl
  all_goals
   go_wp2_with (first
    | (go_at_call 18; (refine (C18.out _ G1.out).mono ?_); rintro e w4 ⟨rfl, g4⟩; have G4 := Lh (G1.out.trans g4); clear g4 C18)
    | (go_at_call 11; (refine (C11.out _).mono ?_); rintro e w9 ⟨rfl, g9⟩; have G9 := Lh ((G4.out.trans ((Gr.refl w4).alloc _)).trans g9); clear g9))
   all_goals (go_ret; exact ⟨rfl, G9.out⟩)
 | ok x =>
  obtain ⟨T, Wd⟩ := x
  rw [hres] at C18
  obtain ⟨LT, eC, kf, NS, C12'⟩ := counts_three (a := a) (n := n) (c := c) (a' := a1) (c' := d1) HM.out.1 HM.out.2.2.1 HM.out.2.2.2 HN1.out hres
  have C12 := Lh C12'
  have C16 := Lh (costs_three (a := a) (n := n) (c := c) (a' := a2) (c' := d2) HM.out.2.1 HM.out.2.2.1 HM.out.2.2.2 HN2.out hres)
  have HTI := Lh (vTab_TG (ans_valid hres)).1
  have HNS := Lh NS
  obtain ⟨kL, hkL⟩ : ∃ kL, LT.length = kL := ⟨_, rfl⟩
  have HkL := Lh hkL
  have hee := NS.e
  clear hres NS C12' hkL
  rcases hee with rfl | rfl
  all_goals
   go_wp2_with (first
    | (go_at_call 18; (refine (C18.out _ G1.out).mono ?_); rintro e w4 ⟨v, raw, rfl, ho, hd⟩; have G4 := Lh (G1.out.trans ho.2); obtain ⟨va, vc, rfl, hrd⟩ := ho.rd; have HW := Lh (RdW.of_rows hrd hd); generalize raw.length = n0 at *; obtain ⟨wB, hwB⟩ : ∃ W, w4.alloc (.cells #[.int .i64 Wd, .slice va n0 vc] 36) = W := ⟨_, rfl⟩; have gB : Gr w4 wB := hwB ▸ (Gr.refl w4).alloc _; obtain ⟨-, k1⟩ : wB.cell? ⟨w4.heap.size, 0, none⟩ = some (.int .i64 Wd) ∧ wB.cell? ⟨w4.heap.size, 1, none⟩ = some (.slice va n0 vc) := hwB ▸ box_is w4 Wd _ 36; have GB := Lh (G4.out.trans gB); have HB := Lh gB; clear ho hd hrd C18 gB)
    | (go_at_call 12; (with_reducible refine (C12.out _ (HR.out.gr GB.out) (HL1.out.gr GB.out) (HT.out.gr GB.out) (HE.out.gr GB.out)).mono ?_); rintro e w5 ⟨xa, xn, xc, na, nn, nc, rfl, h1, h2, g5⟩; have X1 := Lh h1; have X2 := Lh h2; have G5 := Lh (GB.out.trans g5); have H5' := Lh (HB.out.trans g5); replace k1 := g5.cell k1; obtain rfl : kL = xn := (by rw [h1.1, List.length_map, HkL.out]); obtain rfl : kL = nn := (by rw [h2.1, List.length_map, HkL.out]); clear h1 h2 g5 C12)
    | (go_at_call 16; (with_reducible refine (C16.out _ (HR.out.gr G5.out) (HL2.out.gr G5.out) (HT.out.gr G5.out) (HE.out.gr G5.out)).mono ?_); rintro e w6 ⟨ya, yn, yc, ba, bn, bc, rfl, h1, h2, g6⟩; have Y1 := Lh h1; have Y2 := Lh h2; have G6 := Lh (G5.out.trans g6); have H6' := Lh (H5'.out.trans g6); have X16 := Lh g6; replace k1 := g6.cell k1; obtain rfl : n0 = yn := (by rw [h1.1, HW.out.1]; simp [mapT]); obtain rfl : n0 = bn := (by rw [h2.1, HW.out.1]; simp [mapT]); clear h1 h2 g6 C16))
   go_loopw [112, 17] (fun s t wr => ∃ i : Nat, i ≤ n0 ∧ s = .int .i64 i ∧ t = .int .i64 (kf i : Nat) ∧ Hid (Gr w6 wr)) (fun s _ _ => n0 - (intOf s).toNat)
   case atStart => exact ⟨0, Nat.zero_le _, rfl, by rw [HNS.out.k0]; rfl, Lh (by first | exact Gr.refl _ | exact (Gr.refl _).drew | exact (Gr.refl _).drewN _)⟩
   case round =>
    obtain ⟨i, hi, rfl, rfl, HG⟩ := hrel
    replace k1 := HG.out.cell k1
    by_cases hlt : i < n0
    · have i1 : (i : Int) < (n0 : Int) := by omega
      obtain ⟨b, o, r, x1, x1n, x1c, y1, y1n, y1c, rfl, hx, e1, e2, xr', xp'⟩ := HW.out.at hlt
      obtain ⟨L1, L2⟩ := r
      have g46 := H6'.out.trans HG.out
      have xr := Lh (xr'.gr g46)
      have xp := Lh (xp'.gr g46)
      replace e1 := g46.cell e1
      replace e2 := g46.cell e2
      obtain ⟨wA, hwA⟩ : ∃ wA, wr.alloc (.cells #[.slice x1 x1n x1c, .slice y1 y1n y1c] 52) = wA := ⟨_, rfl⟩
      have gA : Gr wr wA := hwA ▸ (Gr.refl wr).alloc _
      obtain ⟨z0, z1⟩ : wA.cell? ⟨wr.heap.size, 0, none⟩ = some (.slice x1 x1n x1c) ∧ wA.cell? ⟨wr.heap.size, 1, none⟩ = some (.slice y1 y1n y1c) := by rw [← hwA]; exact box_vv wr _ _ 52
      have HA := Lh gA
      have HG0 := Lh (HTI.out.gd _ (List.mem_of_getElem? hx))
      have hst := HNS.out.st i _ hx
      obtain ⟨nc', hnc⟩ : ∃ nc, cosQ l2 L2 = nc := ⟨_, rfl⟩
      obtain ⟨nv, hnv⟩ : ∃ nv, valQ l1 L2 = nv := ⟨_, rfl⟩
      have C31 := Lh (fun W1 (k : Gr wr W1) => show Calls Tryz.prog 31 #[.slice y1 y1n y1c, .slice a2 m2 d2] W1 (RetNE nc' 0 W1) from hnc ▸ cost_row HM.out.2.1 (xp.out.gr k) HG0.out (HL2.out.gr (G6.out.trans (HG.out.trans k))) HN2.out)
      have C32 := Lh (fun W1 (k : Gr wr W1) => show Calls Tryz.prog 32 #[.slice y1 y1n y1c, .slice a1 m1 d1] W1 (RetNE nv 0 W1) from hnv ▸ value_row HM.out.1 (xp.out.gr k) HG0.out (HL1.out.gr (G6.out.trans (HG.out.trans k))) HN1.out)
      obtain ⟨b5, o5, rfl, hc5⟩ := Y2.out.2.2.2.2.at hlt
      have z5 := HG.out.cell (hc5 i hlt)
      rw [iv_some (L := (mapT (cosQ l2) T).map (·.2)) (i := i) (x := nc') (by simp [mapT, hx, hnc])] at z5
      obtain ⟨b6, o6, M, p1, pn, pc, rfl, hM, z6, r6⟩ := Y1.out.at hlt
      obtain rfl : M = L1 := by simp [mapT, hx] at hM; exact hM.symm
      replace z6 := HG.out.cell z6
      have CS := Lh (fun W (g : Gr wr W) => SameInts_eq x1 x1n x1c p1 pn pc M W (xr.out.gr g) (r6.gr (HG.out.trans g)))
      have Hlt := Lh hlt
      have Hx := Lh hx
      have HW9 := Lh (show wrap64 ((i : Int) + 1) = ((i + 1 : Nat) : Int) by rw [IntWalk.wrap64_in _ (by have := HTI.out.len; have := HW.out.1; omega)]; omega)
      simp only [hnv] at hst
      have HST := Lh hst
      clear hx hM hc5 r6 xr' xp' hnc hnv g46 gA hlt hst
      go_upto_region 15 with (go_at_call 31; (with_reducible refine (C31.out _ HA.out).mono ?_); rintro e w7 ⟨rfl, g7⟩; have H7' := Lh (HA.out.trans g7); replace z0 := g7.cell z0; replace z1 := g7.cell z1; replace z5 := H7'.out.cell z5; replace z6 := H7'.out.cell z6; clear g7 C31)
      refine Hg (fun w' => Gr w7 w') 20 ?_
      have hS : Gr w7 w7.drew := (Gr.refl w7).drew
      obtain ⟨wT, hw9⟩ : ∃ W9, w7.drew = W9 := ⟨_, rfl⟩
      rw [hw9] at hS ⊢
      clear hw9
      refine H12 0 1 2 3 4 5 6 7 8 9 10 11 (c3 z0 z5 z6) hS ?_; refine H5 12 13 14 15 16 (c3 z0 z5 z6) hS ?_
      refine Hr 17 rfl (fun K hK => ?_)
      go_simp
      refine ⟨trivial, ?_⟩
      refine (callsIn_wide.2 (CS.out _ (H7'.out.trans hS))).mono ?_
      rintro e w8 ⟨rfl, g8⟩
      have hS : Gr w7 w8 := hS.trans g8
      refine hK.out _ _ hS ?_
      clear hK K g8 CS
      refine H2 18 19 tv hS ?_
      refine Hd ?_
      have H8' := Lh (H7'.out.trans hS)
      replace z0 := hS.cell z0
      replace z1 := hS.cell z1
      clear hS z5 z6 k1 e1 e2
      by_cases h0 : nv = 0
      · have hk : kf (i + 1) = kf i := by
          rcases HST.out with ⟨-, hk⟩ | ⟨-, hne, -⟩
          · exact hk
          · exact absurd h0 hne
        subst h0
        go_wp2_with (go_at_call 32; (with_reducible refine (C32.out _ H8'.out).mono ?_); rintro e w9 ⟨rfl, g9⟩; have H9' := Lh (H8'.out.trans g9); clear g9 C32)
        go_roundw
        case rel => exact ⟨i + 1, Hlt.out, by first | rw [HW9.out] | rfl, by rw [hk], Lh (HG.out.trans H9'.out)⟩
        case measure => first | (rw [HW9.out]; exact fallY Hlt.out) | exact fallY Hlt.out
      · rcases HST.out with ⟨h4 | h4, hk⟩ | ⟨he, hne, hk, hL⟩
        all_goals first | exact absurd h4 h0 | exact absurd h4 (by decide) | exact absurd he (by decide) | skip
        first
          | (have h44 := h4
             go_wp2_with (go_at_call 32; (with_reducible refine (C32.out _ H8'.out).mono ?_); rintro e w9 ⟨rfl, g9⟩; have H9' := Lh (H8'.out.trans g9); clear g9 C32)
             go_roundw
             case rel => exact ⟨i + 1, Hlt.out, by first | rw [HW9.out] | rfl, by rw [hk], Lh (HG.out.trans H9'.out)⟩
             case measure => first | (rw [HW9.out]; exact fallY Hlt.out) | exact fallY Hlt.out)
          | (have hL' := hL
             clear hL'
             generalize hkk : kf i = kk at *
             have hkl : kk < kL := by
              rw [← HkL.out]
              exact (List.getElem?_eq_some_iff.1 hL).1
             obtain ⟨bx, ox, M', q1, qn, qc, rfl, hM', u1, v1⟩ := X1.out.at hkl
             obtain rfl : M' = M := by
              rw [List.getElem?_map, hL] at hM'
              exact (Option.some.inj hM').symm
             obtain ⟨b8, o8, rfl, hcy⟩ := X2.out.2.2.2.2.at hkl
             have gX := X16.out.trans (HG.out.trans H8'.out)
             have u2 := gX.cell (hcy kk hkl)
             rw [iv_some (L := LT.map (·.2)) (i := kk) (x := nv) (by rw [List.getElem?_map, hL]; rfl)] at u2
             replace u1 := gX.cell u1
             have CT := Lh (fun W (g : Gr wr W) => SameInts_eq q1 qn qc x1 x1n x1c M' W (v1.gr (X16.out.trans (HG.out.trans g))) (xr.out.gr g))
             have Hk := Lh hk
             have Hkl := Lh hkl
             have HK9 := Lh (show wrap64 ((kk : Int) + 1) = ((kk + 1 : Nat) : Int) by rw [IntWalk.wrap64_in _ (by have := HNS.out.le; have := HkL.out; omega)]; omega)
             have j1 : (kk : Int) < (kL : Int) := by omega
             have j3 : ¬ kL ≤ kk := by omega
             have j4 : ¬ (kL : Int) ≤ (kk : Int) := by omega
             have j2 : (nv == 0) = false := by simpa using h0
             clear hM' hL hk hcy v1 gX hkk h0 hne
             go_upto_region 21 with (go_at_call 32; (with_reducible refine (C32.out _ H8'.out).mono ?_); rintro e w9 ⟨rfl, g9⟩; have H9' := Lh (H8'.out.trans g9); replace z0 := g9.cell z0; replace u1 := g9.cell u1; replace u2 := g9.cell u2; clear g9 C32)
             refine Hg (fun w' => Gr w9 w') 22 ?_
             have hS : Gr w9 w9.drew := (Gr.refl w9).drew
             obtain ⟨wT, hw9⟩ : ∃ W9, w9.drew = W9 := ⟨_, rfl⟩
             rw [hw9] at hS ⊢
             clear hw9
             refine H12 0 1 2 3 4 5 6 7 8 9 10 11 (c3 z0 u1 u2) hS ?_; refine H5 12 13 14 15 16 (c3 z0 u1 u2) hS ?_; refine H2 17 18 (c3 z0 u1 u2) hS ?_
             refine Hr 19 rfl (fun K hK => ?_)
             go_simp
             refine ⟨trivial, ?_⟩
             refine (callsIn_wide.2 (CT.out _ (H9'.out.trans hS))).mono ?_
             rintro e w10 ⟨rfl, g10⟩
             have hS : Gr w9 w10 := hS.trans g10
             refine hK.out _ _ hS ?_
             clear hK K g10 CT
             refine H2 20 21 tv hS ?_
             refine Hd ?_
             have H10 := Lh (HG.out.trans (H9'.out.trans hS))
             clear hS z0 u1 u2
             go_wp2_with fail
             go_roundw
             case rel => exact ⟨i + 1, Hlt.out, by first | rw [HW9.out] | rfl, by rw [Hk.out]; first | rw [HK9.out] | rfl, H10⟩
             case measure => first | (rw [HW9.out]; exact fallY Hlt.out) | exact fallY Hlt.out)
    · obtain rfl : i = n0 := by omega
      have i1 : ¬ (i : Int) < (i : Int) := by omega
      have hke : kf i = kL := by rw [HW.out.1, HNS.out.kn, HkL.out]
      rw [hke]
      have GG := Lh (G6.out.trans HG.out)
      clear hlt hke k1
      go_wp2_with (go_at_call 11; (refine (C11.out _).mono ?_); rintro e w9 ⟨rfl, g9⟩; have G9 := Lh (GG.out.trans g9); clear g9)
      go_ret
      exact ⟨rfl, G9.out⟩
end provNumbered
end Go.Proofs.YtehdemcfeoiecaaGreatDoor
