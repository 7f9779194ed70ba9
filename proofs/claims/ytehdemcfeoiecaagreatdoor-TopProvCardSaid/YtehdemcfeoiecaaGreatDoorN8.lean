import Derived.Test.YtehdemcfeoiecaaGreatDoorN7
set_option maxHeartbeats 64000000
set_option maxRecDepth 100000
namespace Go.Proofs.YtehdemcfeoiecaaGreatDoor
open Go.RowKit Go.Firn Go.Firn.Tb
def RetWE (Ts : List (Int × Tbl SL)) (w : World) (e : Ending) (w' : World) : Prop := ∃ a n c, e = .returned (.tuple #[.slice a n c, .int .i64 0]) ∧ RdWs w' a n c Ts ∧ Gr w w'
theorem Without_any (a : Option Addr) (n c : Nat) (Ts : List (Int × Tbl SL)) (tk : UInt8) (w : World) (hr : RdWs w a n c Ts) (hz : SzWs Ts) (hv : vTabs Ts = true) (ht : tok tk) :
 Calls Tryz.prog 25 #[.slice a n c, .string ⟨#[tk]⟩] w (RetWE (woT tk Ts) w) := by
 have C22 := Lh (Valid_any a n c Ts w hr hz)
 have C62 := Lh (fun W => isToken_tok tk ht W)
 have C63 := Lh (fun W (k : Gr w W) => without_any a n c Ts tk W (hr.gr k) hv)
 rw [hv] at C22
 clear hr hz hv ht
 go_enter Tryz.func25, Tryz.ntmps25
 go_wp2_with (first
  | (go_at_call 22; (refine C22.out.mono ?_); rintro e w1 ⟨rfl, g1⟩; have G1 := Lh g1; clear g1 C22)
  | (go_at_call 62; (refine (C62.out _).mono ?_); rintro e w2 ⟨rfl, rfl⟩; clear C62)
  | (go_at_call 63; (refine (C63.out _ G1.out).mono ?_); rintro e w3 ⟨a', n', c', rfl, h3, g3⟩; have H3' := Lh h3; have G3 := Lh (G1.out.trans g3); clear h3 g3 C63))
 refine bodyPost_ret (v := .tuple #[.slice a' n' c', .int .i64 0]) (by simp [results, Tryz.results25, go_sem]) rfl ?_
 exact ⟨a', n', c', rfl, H3'.out, G3.out⟩
def RetLo (L : List (List Int)) (w : World) (e : Ending) (w' : World) : Prop := ∃ a n c, e = .returned (.tuple #[.slice a n c, .int .i64 0]) ∧ RdLs w' a n c L ∧ Gr w w'
theorem lost_snoc (tk : UInt8) {T : Tbl SL} {j : Nat} {L1 : List Int} {L2 : SL} (h : T[j]? = some (L1, L2)) : lostL tk (T.take (j + 1)) = lostL tk (T.take j) ++ (if sprL tk L2 = [] then [L1] else []) := by
 unfold lostL
 rw [List.take_add_one, h, List.filter_append, List.map_append]
 congr 1
 by_cases h0 : sprL tk L2 = []
 ·rw [if_pos h0]; simp [h0]
 ·rw [if_neg h0]; simp [h0]
theorem lost_rows {W : World} {va : Option Addr} {n0 vc : Nat} {T : Tbl SL} (h : RdW W va n0 vc T) {Wd : Int} (hv : vTab Wd T = true) : n0 = T.length ∧ n0 ≤ 60 := ⟨h.1, by rw [h.1]; exact (vTab_TG hv).1.len⟩
theorem Lost_ok (a : Option Addr) (n c : Nat) (Ts : List (Int × Tbl SL)) (q : ByteArray) (tk : UInt8) (T : Tbl SL) (Wd : Int) (w : World) (hr : RdWs w a n c Ts) (hz : SzWs Ts) (hq : q.size ≤ 9223372036854775807) (ht : tok tk) (hres : resQ RgS (fun L => L) true Ts q.data.toList = .ok (T, Wd)) (hT : Pow10 w) (hE : Errs w) :
 Calls Tryz.prog 27 #[.slice a n c, .string q, .string ⟨#[tk]⟩] w (RetLo (lostL tk T) w) := by
 have C62 := Lh (fun W => isToken_tok tk ht W)
 have C51 := Lh (fun W (k : Gr w W) => ask_any a n c Ts q true W (hr.gr k) hz hq (hT.gr k) (hE.gr k))
 rw [hres] at C51
 have HV := Lh (ans_valid hres)
 clear hr hz hq ht hres hT hE
 go_enter Tryz.func27, Tryz.ntmps27
 go_wp2_with (first
  | (go_at_call 62; (refine (C62.out _).mono ?_); rintro e w2 ⟨rfl, rfl⟩; clear C62)
  | (go_at_call 51; (refine (C51.out _ (Gr.refl w)).mono ?_); rintro e w4 ⟨v, raw, rfl, ho, hd⟩; have G4 := Lh ho.2; obtain ⟨va, vc, rfl, hrd⟩ := ho.rd; have HW := Lh (RdW.of_rows hrd hd); generalize raw.length = n0 at *; obtain ⟨wB, hwB⟩ : ∃ W, w4.alloc (.cells #[.int .i64 Wd, .slice va n0 vc] 36) = W := ⟨_, rfl⟩; have gB : Gr w4 wB := hwB ▸ (Gr.refl w4).alloc _; obtain ⟨-, k1⟩ : wB.cell? ⟨w4.heap.size, 0, none⟩ = some (.int .i64 Wd) ∧ wB.cell? ⟨w4.heap.size, 1, none⟩ = some (.slice va n0 vc) := hwB ▸ box_is w4 Wd _ 36; have HB := Lh gB; have HN := Lh (lost_rows HW.out HV.out); clear ho hd hrd C51 gB))
 go_loopw [27, 10] (fun si s10 wr => ∃ (i : Nat) (raw : List Sl), i ≤ n0 ∧ si = .int .i64 i ∧ Hid (OwnLs wB wr s10 raw) ∧ Hid (DatL wB wB raw (lostL tk (T.take i)))) (fun si _ _ => n0 - (intOf si).toNat)
 case atStart => exact ⟨0, [], Nat.zero_le _, rfl, Lh (OwnLs.nil' (Gr.refl _)), Lh (DatL.nil _ _)⟩
 case round =>
  obtain ⟨i, raw, hi, rfl, HO, HD⟩ := hrel
  clear k1
  by_cases hlt : i < n0
  ·have i1 : (i : Int) < (n0 : Int) := by omega
   obtain ⟨b, o, r, x1, x1n, x1c, y1, y1n, y1c, rfl, hx, e1, e2, xr', xp'⟩ := HW.out.at hlt
   obtain ⟨L1, L2⟩ := r
   have hg0 := (vTab_TG HV.out).1.gd _ (List.mem_of_getElem? hx)
   simp only at xr' xp' hg0
   have g46 := HB.out.trans HO.out.2
   replace e1 := g46.cell e1
   replace e2 := g46.cell e2
   obtain rfl : L2.length = y1n := xp'.1.symm
   obtain ⟨wA, hwA⟩ : ∃ wA, wr.alloc (.cells #[.slice x1 x1n x1c, .slice y1 L2.length y1c] 52) = wA := ⟨_, rfl⟩
   have gA : Gr wr wA := hwA ▸ (Gr.refl wr).alloc _
   obtain ⟨z0, z1⟩ : wA.cell? ⟨wr.heap.size, 0, none⟩ = some (.slice x1 x1n x1c) ∧ wA.cell? ⟨wr.heap.size, 1, none⟩ = some (.slice y1 L2.length y1c) := hwA ▸ box_vv wr _ _ 52
   have HA := Lh gA
   have hl2 := (over_iff.1 (vL_iff.1 hg0.1).2).2
   have C66 := Lh (fun W' (k : Gr wr W') => show Calls Tryz.prog 66 #[.slice y1 L2.length y1c, .string ⟨#[tk]⟩] W' (RetS9 (sprL tk L2) (sprL tk L2).length W') from spared_any y1 y1c L2 tk W' (by omega) (RdP.slA xp') (xp'.gr (g46.trans k)).2.2.2.2)
   have HTk := Lh (lost_snoc tk hx)
   have HX := Lh (And.intro (xr'.gr HB.out) (Old.of_rd (xr'.gr HB.out).2.2.2.2 3))
   have HRl := Lh (show raw.length < 999999 by have h1 := HD.out.1; unfold lostL at h1; rw [List.length_map] at h1; have h2 := List.length_filter_le (fun x : List Int × SL => decide (sprL tk x.2 = [])) (T.take i); rw [List.length_take] at h2; have := HN.out; omega)
   have Hlt := Lh hlt
   have HW9 := Lh (show wrap64 ((i : Int) + 1) = ((i + 1 : Nat) : Int) by rw [IntWalk.wrap64_in _ (by have := HN.out; omega)]; omega)
   clear hx hg0 xr' xp' g46 gA hl2 hlt
   by_cases hne : sprL tk L2 = []
   ·rw [hne] at C66
    have hTk := HTk.out
    rw [if_pos hne] at hTk
    have HTk := Lh hTk
    have HDn := Lh (HD.out.snoc (x := (x1, x1n, x1c)) (L := L1) HX.out.1 HX.out.2)
    clear hne hTk
    go_wp2_with (first
     | (go_at_call 66; (with_reducible refine (C66.out _ HA.out).mono ?_); rintro e w5 ⟨sa, sc, rfl, _, g5, _⟩; have G5 := Lh (HA.out.trans g5); replace z0 := g5.cell z0; clear g5 C66)
     | (at_builtin; refine wpList_app_sl rfl _ _ 27 rfl Tryz.underlying27 _ raw rfl (HO.out.gr (G5.out.trans ((Gr.refl w5).alloc (.cells #[.slice x1 x1n x1c] 23)))) w5.heap.size (x1, x1n, x1c) rfl (box_of w5 _ 23) HRl.out ?_; intro v2' w6 h6 g6; have H6 := Lh h6; clear h6 g6))
    go_roundw
    case rel => exact ⟨i + 1, _, Hlt.out, by first | rw [HW9.out] | rfl, H6, Lh (by rw [HTk.out]; exact HDn.out)⟩
    case measure => first | (rw [HW9.out]; exact fallY Hlt.out) | exact fallY Hlt.out
   ·have hTk := HTk.out
    rw [if_neg hne, List.append_nil] at hTk
    have HTk := Lh hTk
    have hp : 0 < (sprL tk L2).length := List.length_pos_iff.2 hne
    generalize (sprL tk L2).length = sl at *
    have i3 : ((sl : Int) == 0) = false := by simp; omega
    have i4 : ¬ sl = 0 := by omega
    clear hne hTk hp
    go_wp2_with (go_at_call 66; (with_reducible refine (C66.out _ HA.out).mono ?_); rintro e w5 ⟨sa, sc, rfl, _, g5, _⟩; have G5 := Lh (HA.out.trans g5); clear g5 C66)
    go_roundw
    case rel => exact ⟨i + 1, raw, Hlt.out, by first | rw [HW9.out] | rfl, Lh (HO.out.gr G5.out), Lh (by rw [HTk.out]; exact HD.out)⟩
    case measure => first | (rw [HW9.out]; exact fallY Hlt.out) | exact fallY Hlt.out
  ·obtain rfl : i = n0 := by omega
   have i1 : ¬ (i : Int) < (i : Int) := by omega
   have hTt : T.take i = T := List.take_of_length_le (by have := HN.out; omega)
   rw [hTt] at HD
   obtain ⟨va', vc', rfl, hv⟩ := HO.out.rd (HD.out.gr HO.out.2)
   have HH := Lh hv
   have GG := Lh (G4.out.trans (HB.out.trans HO.out.2))
   clear hlt hTt hv HO HD
   generalize raw.length = rl at *
   go_wp2_with fail
   refine bodyPost_ret (v := .tuple #[.slice va' rl vc', .int .i64 0]) (by simp [results, Tryz.results27, go_sem]) rfl ?_
   exact ⟨_, _, _, rfl, HH.out, GG.out⟩
end Go.Proofs.YtehdemcfeoiecaaGreatDoor
