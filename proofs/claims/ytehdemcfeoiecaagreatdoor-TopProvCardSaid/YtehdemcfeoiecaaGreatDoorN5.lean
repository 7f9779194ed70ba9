import Derived.Test.YtehdemcfeoiecaaGreatDoorN2
set_option maxHeartbeats 64000000
set_option maxRecDepth 100000
namespace Go.Proofs.YtehdemcfeoiecaaGreatDoor
open Go.RowKit Go.Firn Go.Firn.Tb
theorem refvalue_row {W : World} {a a' : Option Addr} {n c m c' : Nat} {L : SL} {l : Nat → Int} (hm : m ≤ 9223372036854775807) (hr : RdP W a n c L) (h0 : G0 L) (hl : RdI W a' m l) (hb : nmB l m 10 = true) : Calls Tryz.prog 69 #[.slice a n c, .slice a' m c'] W (RetNE (valQ l L) 0 W) := by
 obtain ⟨rfl, h1, h2, -, h3⟩ := hr
 have := refValue_any a a' L.length c m c' (sx L) (sy L) l W (by omega) (size_row h0.1) hm h3 hl
 have hs : vS (sx L) (sy L) L.length = true := h0.1
 simpa only [VlN, VlE, valQ, if_pos hs, if_pos hb] using this
theorem numb_any (a : Option Addr) (n c : Nat) (Ts : List (Int × Tbl SL)) (q : ByteArray) (Wd : Int) (va : Option Addr) (n0 vc : Nat) (T : Tbl SL) (la : Option Addr) (m lc : Nat) (l : Nat → Int) (w : World) (hr : RdWs w a n c Ts) (hz : SzWs Ts) (hq : q.size ≤ 9223372036854775807) (hm : m ≤ 9223372036854775807) (hl : RdI w la m l) (hb : nmB l m 10 = true) (hW : RdW w va n0 vc T) (hres : resQ RgS (fun L => L) true Ts q.data.toList = .ok (T, Wd)) (hT : Pow10 w) (hE : Errs w) :
 Calls Tryz.prog 33 #[.slice a n c, .string q, .agg #[.int .i64 Wd, .slice va n0 vc], .slice la m lc] w (RetB true w) := by
 obtain ⟨LT, eC, kf, NS, C12'⟩ := counts_three (a := a) (n := n) (c := c) (a' := la) (c' := lc) hm hz hq hb hres
 obtain ⟨wB, hwB⟩ : ∃ W, w.alloc (.cells #[.int .i64 Wd, .slice va n0 vc] 36) = W := ⟨_, rfl⟩
 have gB : Gr w wB := hwB ▸ (Gr.refl w).alloc _
 obtain ⟨-, k1⟩ : wB.cell? ⟨w.heap.size, 0, none⟩ = some (.int .i64 Wd) ∧ wB.cell? ⟨w.heap.size, 1, none⟩ = some (.slice va n0 vc) := hwB ▸ box_is w Wd _ 36
 have C12 := Lh (C12' wB (hr.gr gB) (hl.gr gB) (hT.gr gB) (hE.gr gB))
 have HTI := Lh (vTab_TG (ans_valid hres)).1
 have HNS := Lh NS
 have HW := Lh hW
 have HL := Lh hl
 have HM := Lh hm
 have HN1 := Lh hb
 have HB := Lh gB
 obtain ⟨kL, hkL⟩ : ∃ kL, LT.length = kL := ⟨_, rfl⟩
 have HkL := Lh hkL
 have hee := NS.e
 clear hres NS C12' hkL hr hz hq hm hl hb hW hT hE gB
 go_enter Tryz.func33, Tryz.ntmps33
 rcases hee with rfl | rfl
 case' inr =>
  go_wp2_with (go_at_call 12; (with_reducible refine C12.out.mono ?_); rintro e w5 ⟨xa, xn, xc, na, nn, nc, rfl, h1, h2, g5⟩; have G5 := Lh (HB.out.trans g5); clear h1 h2 g5)
  go_ret
  exact ⟨rfl, G5.out⟩
 go_wp2_with (go_at_call 12; (with_reducible refine C12.out.mono ?_); rintro e w6 ⟨xa, xn, xc, na, nn, nc, rfl, h1, h2, g5⟩; have X1 := Lh h1; have X2 := Lh h2; have G6 := Lh (HB.out.trans g5); replace k1 := g5.cell k1; obtain rfl : kL = xn := (by rw [h1.1, List.length_map, HkL.out]); obtain rfl : kL = nn := (by rw [h2.1, List.length_map, HkL.out]); clear h1 h2 g5 C12)
 go_loopw [32, 12] (fun s t wr => ∃ i : Nat, i ≤ n0 ∧ s = .int .i64 i ∧ t = .int .i64 (kf i : Nat) ∧ Hid (Gr w6 wr)) (fun s _ _ => n0 - (intOf s).toNat)
 case atStart => exact ⟨0, Nat.zero_le _, rfl, by rw [HNS.out.k0]; rfl, Lh (by first | exact Gr.refl _ | exact (Gr.refl _).drew | exact (Gr.refl _).drewN _)⟩
 case round =>
  obtain ⟨i, hi, rfl, rfl, HG⟩ := hrel
  clear k1
  by_cases hlt : i < n0
  ·have i1 : (i : Int) < (n0 : Int) := by omega
   obtain ⟨b, o, r, x1, x1n, x1c, y1, y1n, y1c, rfl, hx, e1, e2, xr', xp'⟩ := HW.out.at hlt
   obtain ⟨L1, L2⟩ := r
   have g46 := G6.out.trans HG.out
   have xr := Lh (xr'.gr g46)
   have xp := Lh (xp'.gr g46)
   replace e1 := g46.cell e1
   replace e2 := g46.cell e2
   obtain ⟨wA, hwA⟩ : ∃ wA, wr.alloc (.cells #[.slice x1 x1n x1c, .slice y1 y1n y1c] 52) = wA := ⟨_, rfl⟩
   have gA : Gr wr wA := hwA ▸ (Gr.refl wr).alloc _
   obtain ⟨z0, z1⟩ : wA.cell? ⟨wr.heap.size, 0, none⟩ = some (.slice x1 x1n x1c) ∧ wA.cell? ⟨wr.heap.size, 1, none⟩ = some (.slice y1 y1n y1c) := by rw [← hwA]; exact box_vv wr _ _ 52
   have HA := Lh gA
   have HG0 := Lh (HTI.out.gd _ (List.mem_of_getElem? hx))
   have hst := HNS.out.st i _ hx
   obtain ⟨nv, hnv⟩ : ∃ nv, valQ l L2 = nv := ⟨_, rfl⟩
   have C32 := Lh (fun W1 (k : Gr wr W1) => show Calls Tryz.prog 69 #[.slice y1 y1n y1c, .slice la m lc] W1 (RetNE nv 0 W1) from hnv ▸ refvalue_row HM.out (xp.out.gr k) HG0.out (HL.out.gr (G6.out.trans (HG.out.trans k))) HN1.out)
   have Hlt := Lh hlt
   have HW9 := Lh (show wrap64 ((i : Int) + 1) = ((i + 1 : Nat) : Int) by rw [IntWalk.wrap64_in _ (by have := HTI.out.len; have := HW.out.1; omega)]; omega)
   simp only [hnv] at hst
   clear hx xr' xp' hnv g46 gA hlt
   by_cases h0 : nv = 0
   ·have hk : kf (i + 1) = kf i := by
     rcases hst with ⟨-, hk⟩ | ⟨-, hne, -⟩
     ·exact hk
     ·exact absurd h0 hne
    subst h0
    clear hst
    go_wp2_with (go_at_call 69; (with_reducible refine (C32.out _ HA.out).mono ?_); rintro e w9 ⟨rfl, g9⟩; have H9' := Lh (HA.out.trans g9); replace z0 := g9.cell z0; replace z1 := g9.cell z1; clear g9 C32)
    go_roundw
    case rel => exact ⟨i + 1, Hlt.out, by first | rw [HW9.out] | rfl, by rw [hk], Lh (HG.out.trans H9'.out)⟩
    case measure => first | (rw [HW9.out]; exact fallY Hlt.out) | exact fallY Hlt.out
   ·obtain ⟨-, -, hk, hL⟩ : (0 : Int) = 0 ∧ (nv = 0 → False) ∧ kf (i + 1) = kf i + 1 ∧ LT[kf i]? = some (L1, nv) := by
     rcases hst with ⟨h4 | h4, -⟩ | h4
     ·exact absurd h4 (by decide)
     ·exact absurd h4 h0
     ·exact ⟨rfl, h0, h4.2.2.1, h4.2.2.2⟩
    generalize hkk : kf i = kk at *
    have hkl : kk < kL := by
     rw [← HkL.out]
     exact (List.getElem?_eq_some_iff.1 hL).1
    obtain ⟨bx, ox, M', q1, qn, qc, rfl, hM', u1, v1⟩ := X1.out.at hkl
    obtain rfl : M' = L1 := by
     rw [List.getElem?_map, hL] at hM'
     exact (Option.some.inj hM').symm
    obtain ⟨b8, o8, rfl, hcy⟩ := X2.out.2.2.2.2.at hkl
    have gX := HG.out.trans HA.out
    have u2 := gX.cell (hcy kk hkl)
    rw [iv_some (L := LT.map (·.2)) (i := kk) (x := nv) (by rw [List.getElem?_map, hL]; rfl)] at u2
    replace u1 := gX.cell u1
    have CT := Lh (fun W (g : Gr wr W) => SameInts_eq q1 qn qc x1 x1n x1c M' W (v1.gr (HG.out.trans g)) (xr.out.gr g))
    have Hk := Lh hk
    have HK9 := Lh (show wrap64 ((kk : Int) + 1) = ((kk + 1 : Nat) : Int) by rw [IntWalk.wrap64_in _ (by have := HNS.out.le; have := HkL.out; omega)]; omega)
    have j1 : (kk : Int) < (kL : Int) := by omega
    have j3 : ¬ kL ≤ kk := by omega
    have j4 : ¬ (kL : Int) ≤ (kk : Int) := by omega
    have j2 : (nv == 0) = false := by simpa using h0
    clear hM' hL hk hcy v1 gX hkk h0 hst
    go_upto_region 12 with (go_at_call 69; (with_reducible refine (C32.out _ HA.out).mono ?_); rintro e w9 ⟨rfl, g9⟩; have H9' := Lh (HA.out.trans g9); replace z0 := g9.cell z0; replace u1 := g9.cell u1; replace u2 := g9.cell u2; clear g9 C32)
    refine Hg (fun w' => Gr w9 w') 28 ?_
    have hS : Gr w9 w9.drew := (Gr.refl w9).drew
    obtain ⟨wT, hw9⟩ : ∃ W9, w9.drew = W9 := ⟨_, rfl⟩
    rw [hw9] at hS ⊢
    clear hw9
    refine H12 0 1 2 3 4 5 6 7 8 9 10 11 (c3 z0 u1 u2) hS ?_; refine H12 12 13 14 15 16 17 18 19 20 21 22 23 (c3 z0 u1 u2) hS ?_; refine H1 24 (c3 z0 u1 u2) hS ?_
    refine Hr 25 rfl (fun K hK => ?_)
    go_simp
    refine ⟨trivial, ?_⟩
    refine (callsIn_wide.2 (CT.out _ (H9'.out.trans hS))).mono ?_
    rintro e w10 ⟨rfl, g10⟩
    have hS : Gr w9 w10 := hS.trans g10
    refine hK.out _ _ hS ?_
    clear hK K g10 CT
    refine H2 26 27 tv hS ?_
    refine Hd ?_
    have H10 := Lh (HG.out.trans (H9'.out.trans hS))
    clear hS z0 u1 u2
    go_wp2_with fail
    go_roundw
    case rel => exact ⟨i + 1, Hlt.out, by first | rw [HW9.out] | rfl, by rw [Hk.out]; first | rw [HK9.out] | rfl, H10⟩
    case measure => first | (rw [HW9.out]; exact fallY Hlt.out) | exact fallY Hlt.out
  ·obtain rfl : i = n0 := by omega
   have i1 : ¬ (i : Int) < (i : Int) := by omega
   have hke : kf i = kL := by rw [HW.out.1, HNS.out.kn, HkL.out]
   rw [hke]
   have GG := Lh (G6.out.trans HG.out)
   clear hlt hke
   go_wp2_with fail
   go_ret
   exact ⟨rfl, GG.out⟩
end Go.Proofs.YtehdemcfeoiecaaGreatDoor
