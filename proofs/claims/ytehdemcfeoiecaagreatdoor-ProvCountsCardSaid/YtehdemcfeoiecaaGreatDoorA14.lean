import Derived.Test.YtehdemcfeoiecaaGreatDoorA13
set_option maxHeartbeats 64000000
set_option maxRecDepth 100000
namespace Go.Proofs.YtehdemcfeoiecaaGreatDoor
open Go.RowKit Go.Firn Go.Firn.Tb RE
def RetBg (how : Int) (l : Nat → Int) (T : Tbl SL) (w : World) (e : Ending) (w' : World) : Prop := ∃ v raw, e = .returned v ∧ OwnR w w' v raw ∧ Dat w w' raw (begH how l T)
theorem begH_snoc (how : Int) (l : Nat → Int) (T : Tbl SL) (r : List Int × SL) : begH how l (T ++ [r]) = begH how l T ++ (if (decide (how ≠ 2) || decide (0 < (fromH how l r.2).2)) = true then [(r.1, fromH how l r.2)] else []) := by
 unfold begH mapT
 rw [List.map_append, List.filter_append]
 congr 1
 simp only [List.map_cons, List.map_nil, List.filter_cons, List.filter_nil]
theorem begun2_any (W : Int) (a : Option Addr) (n c : Nat) (T : Tbl SL) (la : Option Addr) (lc : Nat) (l : Nat → Int) (w : World) (hr : RdW w a n c T) (hv : vTab W T = true) (hl : RdI w la 8 l) (hb : Nm8 l 10) :
  Calls Tryz.prog 83 #[.agg #[.int .i64 W, .slice a n c], .int .i64 2, .slice la 8 lc] w (RetBg 2 l T w) := by
 obtain ⟨wB, hwB⟩ : ∃ wB, w.alloc (.cells #[.int .i64 W, .slice a n c] 36) = wB := ⟨_, rfl⟩
 have gB : Gr w wB := hwB ▸ (Gr.refl w).alloc _
 obtain ⟨yy0, yy1⟩ : wB.cell? ⟨w.heap.size, 0, none⟩ = some (.int .i64 W) ∧ wB.cell? ⟨w.heap.size, 1, none⟩ = some (.slice a n c) := by rw [← hwB]; exact box_is w W _ 36
 have HX := Lh hr
 have GB := Lh gB
 have HLr := Lh hl
 have HLb := Lh hb
 have HV := Lh hv
 have HN := Lh (show n = T.length ∧ n ≤ 60 from ⟨hr.1, by
  have := hv
  unfold vTab at this
  simp only [Bool.and_eq_true, decide_eq_true_eq] at this
  have := hr.1
  omega⟩)
 clear hr gB hl hb hv
 go_enter Tryz.func83, Tryz.ntmps83
 generalize hbx : w.heap.size = bx at *
 go_wp2_with fail
 go_loopw [14, 7] (fun si s7 wr => ∃ k : Nat, k ≤ n ∧ si = .int .i64 k ∧ ∃ raw, Hid (OwnR w wr s7 raw) ∧ Hid (Dat w wr raw (begH 2 l (T.take k)))) (fun si _ _ => n - (intOf si).toNat)
 case atStart => exact ⟨0, Nat.zero_le _, rfl, [], Lh (OwnR.nil' GB.out), Lh (Dat.nil _ _)⟩
 case round =>
  obtain ⟨k, hk, rfl, raw, HO, HD⟩ := hrel
  by_cases hlt : k < n
  ·have i1 : (k : Int) < (n : Int) := by omega
   obtain ⟨b, o, r, a1, n1, cc1, a2, n2, cc2, rfl, hx, d1, d2, xr, xp⟩ := HX.out.at hlt
   replace d1 := HO.out.2.cell d1
   replace d2 := HO.out.2.cell d2
   replace xp := xp.gr HO.out.2
   obtain ⟨L1, L2⟩ := r
   obtain ⟨wA, hwA⟩ : ∃ wA, wr.alloc (.cells #[.slice a1 n1 cc1, .slice a2 n2 cc2] 52) = wA := ⟨_, rfl⟩
   have gA : Gr wr wA := hwA ▸ (Gr.refl wr).alloc _
   have HGA := Lh gA
   have HbA := Lh (show wr.heap.size ≤ wA.heap.size from gA.size)
   obtain ⟨z0, z1⟩ : wA.cell? ⟨wr.heap.size, 0, none⟩ = some (.slice a1 n1 cc1) ∧ wA.cell? ⟨wr.heap.size, 1, none⟩ = some (.slice a2 n2 cc2) := by rw [← hwA]; exact box_vv wr _ _ 52
   have zz1 := ((Gr.refl wA).alloc (.cells #[.slice a1 n1 cc1, .slice none 0 0, .int .i64 0] 81)).cell z1
   have HTk := Lh (show T.take (k + 1) = T.take k ++ [(L1, L2)] by rw [List.take_add_one, hx]; rfl)
   have HG0 := ((vTab_TG HV.out).1.gd _ (List.mem_of_getElem? hx)).1
   have Hlt := Lh hlt
   have w9 := Lh (show wrap64 ((k : Int) + 1) = ((k + 1 : Nat) : Int) by rw [IntWalk.wrap64_in _ (by have := HN.out; omega)]; omega)
   have HRl := Lh (show raw.length < 999999 by
    have h1 := HD.out.1
    have h2 : (begH 2 l (T.take k)).length ≤ (T.take k).length := by
     unfold begH mapT
     exact Nat.le_trans (List.length_filter_le _ _) (by rw [List.length_map]; exact Nat.le_refl _)
    rw [List.length_take] at h2
    have := HN.out
    omega)
   obtain ⟨nq, hnq⟩ : ∃ nq, valQ l L2 = nq := ⟨_, rfl⟩
   have CN := Lh (fun W1 (k : Gr wr W1) => show Calls Tryz.prog 99 #[.slice a2 n2 cc2, .slice la 8 lc] W1 (fun e w' => e = .returned (.int .i64 nq) ∧ Gr W1 w') from by
    have h1 := xp.gr k
    have hn2 : n2 = L2.length := xp.1
    have hvs : vS (sx L2) (sy L2) n2 = true := by
     rw [hn2]
     exact HG0
    have := refvalue_any a2 la n2 cc2 lc (sx L2) (sy L2) l W1 hvs h1.2.2.2.2 (HLr.out.gr (HO.out.2.trans k)) HLb.out
    rw [← hnq]
    unfold valQ
    rw [← hn2]
    exact this)
   have HX1 := Lh xr
   clear hx hlt xr xp HG0 gA
   obtain ⟨nm, hnm⟩ : ∃ nm : Int, min nq 1000000000000001 = nm := ⟨_, rfl⟩
   have HFr := Lh (show fromH 2 l L2 = ([], nm) by
    show ([], φC l L2) = _
    rw [← hnm, ← hnq]
    rfl)
   clear hnq
   by_cases h0 : 0 < nm
   ·have hd : decide (0 < nm) = true := decide_eq_true h0
    have HKp := Lh (show (decide ((2 : Int) ≠ 2) || decide (0 < nm)) = true by rw [hd]; rfl)
    clear h0
    go_wp2_with (first
     | (go_at_call 99; (refine (CN.out _ (HGA.out.trans ((Gr.refl wA).alloc (.cells #[.slice a1 n1 cc1, .slice none 0 0, .int .i64 0] 81)))).mono ?_); rintro e w5 ⟨rfl, g5⟩; obtain ⟨x0, f0⟩ := g5.fresh' (b := wA.heap.size) (j := 0) rfl rfl; obtain ⟨x1, f1⟩ := g5.fresh' (b := wA.heap.size) (j := 1) rfl rfl; obtain ⟨x2, f2⟩ := g5.fresh' (b := wA.heap.size) (j := 2) rfl rfl; obtain ⟨wP, hwP, gP, sP, k0, k1, k2⟩ := put1w ⟨⟨_, _, _, x0, x1, x2⟩, f0, f1, f2⟩ x0 x1 (.int .i64 nm); have HGP := Lh (show Gr wr wP from hwP ▸ Gr.setAt ((HGA.out.trans ((Gr.refl wA).alloc _)).trans g5) HbA.out _); clear gP sP g5 CN)
     | (at_builtin; go_must (refine wpList_app_row rfl _ _ 77 rfl Tryz.underlying77 _ raw rfl (HO.out.gr (HGP.out.trans ((Gr.refl wP).alloc (.cells #[.slice a1 n1 cc1, .slice none 0 0, .int .i64 nm] 81)))) _ (Rw.mk a1 n1 cc1 none 0 0 nm) rfl (row_box' _ _ _ _ _ _ _ rfl) HRl.out ?_); intro v8 w6 h6 g6; have H6 := Lh h6; have e9 := w9.out; have HD6 := Lh (Dat.grown (HD.out.gr (HGP.out.trans ((Gr.refl wP).alloc (.cells #[.slice a1 n1 cc1, .slice none 0 0, .int .i64 nm] 81)))) (HO.out.gr (HGP.out.trans ((Gr.refl wP).alloc (.cells #[.slice a1 n1 cc1, .slice none 0 0, .int .i64 nm] 81)))) g6); clear h6 g6 hwP i1))
    go_roundw
    case rel => exact ⟨k + 1, Hlt.out, by first | rw [e9] | rfl, _, Lh H6.out, Lh (by
     rw [HTk.out, begH_snoc, HFr.out, if_pos HKp.out]
     exact HD6.out.snoc (x := Rw.mk a1 n1 cc1 none 0 0 nm) (r := (L1, ([], nm))) (HX1.out.gr H6.out.2) ((Old.of_rd HX1.out.2.2.2.2 3).gr H6.out.2) ⟨⟨rfl, Nat.le_refl _, Nat.zero_le _, fun _ => rfl, .inl rfl⟩, .inl rfl, rfl⟩)⟩
    case measure => first | (rw [e9]; exact fallX Hlt.out) | exact fallX Hlt.out
   have hd : decide (0 < nm) = false := decide_eq_false h0
   have HKp := Lh (show ¬ (decide ((2 : Int) ≠ 2) || decide (0 < nm)) = true by rw [hd]; decide)
   clear h0
   have e9 := w9.out
   go_wp2_with (first
    | (go_at_call 99; (refine (CN.out _ (HGA.out.trans ((Gr.refl wA).alloc (.cells #[.slice a1 n1 cc1, .slice none 0 0, .int .i64 0] 81)))).mono ?_); rintro e w5 ⟨rfl, g5⟩; obtain ⟨x0, f0⟩ := g5.fresh' (b := wA.heap.size) (j := 0) rfl rfl; obtain ⟨x1, f1⟩ := g5.fresh' (b := wA.heap.size) (j := 1) rfl rfl; obtain ⟨x2, f2⟩ := g5.fresh' (b := wA.heap.size) (j := 2) rfl rfl; obtain ⟨wP, hwP, gP, sP, k0, k1, k2⟩ := put1w ⟨⟨_, _, _, x0, x1, x2⟩, f0, f1, f2⟩ x0 x1 (.int .i64 nm); have HGP := Lh (show Gr wr wP from hwP ▸ Gr.setAt ((HGA.out.trans ((Gr.refl wA).alloc _)).trans g5) HbA.out _); clear gP sP g5 CN)
    | fail)
   go_roundw
   case rel => exact ⟨k + 1, Hlt.out, by first | rw [e9] | rfl, raw, Lh (HO.out.gr HGP.out), Lh (by
    rw [HTk.out, begH_snoc, HFr.out, if_neg HKp.out, List.append_nil]
    exact HD.out.gr HGP.out)⟩
   case measure => first | (rw [e9]; exact fallX Hlt.out) | exact fallX Hlt.out
  obtain rfl : k = n := by omega
  have i1 : ¬ (k : Int) < (k : Int) := by omega
  have HT := Lh (show T.take k = T from List.take_of_length_le (by have := HN.out.1; omega))
  clear hlt
  go_wp2_with fail
  go_ret
  exact ⟨_, raw, rfl, HO.out, by have := HD.out; rwa [HT.out] at this⟩
theorem begun3_any (W : Int) (a : Option Addr) (n c : Nat) (T : Tbl SL) (la : Option Addr) (lc : Nat) (l : Nat → Int) (w : World) (hr : RdW w a n c T) (hv : vTab W T = true) (hl : RdI w la 8 l) (hb : Nm8 l 1000) :
  Calls Tryz.prog 83 #[.agg #[.int .i64 W, .slice a n c], .int .i64 3, .slice la 8 lc] w (RetBg 3 l T w) := by
 obtain ⟨wB, hwB⟩ : ∃ wB, w.alloc (.cells #[.int .i64 W, .slice a n c] 36) = wB := ⟨_, rfl⟩
 have gB : Gr w wB := hwB ▸ (Gr.refl w).alloc _
 obtain ⟨yy0, yy1⟩ : wB.cell? ⟨w.heap.size, 0, none⟩ = some (.int .i64 W) ∧ wB.cell? ⟨w.heap.size, 1, none⟩ = some (.slice a n c) := by rw [← hwB]; exact box_is w W _ 36
 have HX := Lh hr
 have GB := Lh gB
 have HLr := Lh hl
 have HLb := Lh hb
 have HV := Lh hv
 have HN := Lh (show n = T.length ∧ n ≤ 60 from ⟨hr.1, by
  have := hv
  unfold vTab at this
  simp only [Bool.and_eq_true, decide_eq_true_eq] at this
  have := hr.1
  omega⟩)
 clear hr gB hl hb hv
 go_enter Tryz.func83, Tryz.ntmps83
 generalize hbx : w.heap.size = bx at *
 go_wp2_with fail
 go_loopw [14, 7] (fun si s7 wr => ∃ k : Nat, k ≤ n ∧ si = .int .i64 k ∧ ∃ raw, Hid (OwnR w wr s7 raw) ∧ Hid (Dat w wr raw (begH 3 l (T.take k)))) (fun si _ _ => n - (intOf si).toNat)
 case atStart => exact ⟨0, Nat.zero_le _, rfl, [], Lh (OwnR.nil' GB.out), Lh (Dat.nil _ _)⟩
 case round =>
  obtain ⟨k, hk, rfl, raw, HO, HD⟩ := hrel
  by_cases hlt : k < n
  ·have i1 : (k : Int) < (n : Int) := by omega
   obtain ⟨b, o, r, a1, n1, cc1, a2, n2, cc2, rfl, hx, d1, d2, xr, xp⟩ := HX.out.at hlt
   replace d1 := HO.out.2.cell d1
   replace d2 := HO.out.2.cell d2
   replace xp := xp.gr HO.out.2
   obtain ⟨L1, L2⟩ := r
   obtain ⟨wA, hwA⟩ : ∃ wA, wr.alloc (.cells #[.slice a1 n1 cc1, .slice a2 n2 cc2] 52) = wA := ⟨_, rfl⟩
   have gA : Gr wr wA := hwA ▸ (Gr.refl wr).alloc _
   have HGA := Lh gA
   have HbA := Lh (show wr.heap.size ≤ wA.heap.size from gA.size)
   obtain ⟨z0, z1⟩ : wA.cell? ⟨wr.heap.size, 0, none⟩ = some (.slice a1 n1 cc1) ∧ wA.cell? ⟨wr.heap.size, 1, none⟩ = some (.slice a2 n2 cc2) := by rw [← hwA]; exact box_vv wr _ _ 52
   have zz1 := ((Gr.refl wA).alloc (.cells #[.slice a1 n1 cc1, .slice none 0 0, .int .i64 0] 81)).cell z1
   have HTk := Lh (show T.take (k + 1) = T.take k ++ [(L1, L2)] by rw [List.take_add_one, hx]; rfl)
   have HG0 := ((vTab_TG HV.out).1.gd _ (List.mem_of_getElem? hx)).1
   have Hlt := Lh hlt
   have w9 := Lh (show wrap64 ((k : Int) + 1) = ((k + 1 : Nat) : Int) by rw [IntWalk.wrap64_in _ (by have := HN.out; omega)]; omega)
   have HRl := Lh (show raw.length < 999999 by
    have h1 := HD.out.1
    have h2 : (begH 3 l (T.take k)).length ≤ (T.take k).length := by
     unfold begH mapT
     exact Nat.le_trans (List.length_filter_le _ _) (by rw [List.length_map]; exact Nat.le_refl _)
    rw [List.length_take] at h2
    have := HN.out
    omega)
   obtain ⟨nq, hnq⟩ : ∃ nq, cosQ l L2 = nq := ⟨_, rfl⟩
   have CN := Lh (fun W1 (k : Gr wr W1) => show Calls Tryz.prog 71 #[.slice a2 n2 cc2, .slice la 8 lc] W1 (fun e w' => e = .returned (.int .i64 nq) ∧ Gr W1 w') from by
    have h1 := xp.gr k
    have hn2 : n2 = L2.length := xp.1
    have hvs : vS (sx L2) (sy L2) n2 = true := by
     rw [hn2]
     exact HG0
    have := refcost_any a2 la n2 cc2 lc (sx L2) (sy L2) l W1 hvs h1.2.2.2.2 (HLr.out.gr (HO.out.2.trans k)) HLb.out
    rw [← hnq]
    unfold cosQ
    rw [← hn2]
    exact this)
   have HX1 := Lh xr
   clear hx hlt xr xp HG0 gA
   obtain ⟨nm, hnm⟩ : ∃ nm : Int, nq = nm := ⟨_, rfl⟩
   subst hnm
   have HFr := Lh (show fromH 3 l L2 = ([], nq) by
    show ([], cosQ l L2) = _
    rw [hnq])
   have HKp := Lh (show (decide ((3 : Int) ≠ 2) || decide (0 < nq)) = true from rfl)
   clear hnq
   go_wp2_with (first
    | (go_at_call 71; (refine (CN.out _ (HGA.out.trans ((Gr.refl wA).alloc (.cells #[.slice a1 n1 cc1, .slice none 0 0, .int .i64 0] 81)))).mono ?_); rintro e w5 ⟨rfl, g5⟩; obtain ⟨x0, f0⟩ := g5.fresh' (b := wA.heap.size) (j := 0) rfl rfl; obtain ⟨x1, f1⟩ := g5.fresh' (b := wA.heap.size) (j := 1) rfl rfl; obtain ⟨x2, f2⟩ := g5.fresh' (b := wA.heap.size) (j := 2) rfl rfl; obtain ⟨wP, hwP, gP, sP, k0, k1, k2⟩ := put1w ⟨⟨_, _, _, x0, x1, x2⟩, f0, f1, f2⟩ x0 x1 (.int .i64 nq); have HGP := Lh (show Gr wr wP from hwP ▸ Gr.setAt ((HGA.out.trans ((Gr.refl wA).alloc _)).trans g5) HbA.out _); clear gP sP g5 CN)
    | (at_builtin; go_must (refine wpList_app_row rfl _ _ 77 rfl Tryz.underlying77 _ raw rfl (HO.out.gr (HGP.out.trans ((Gr.refl wP).alloc (.cells #[.slice a1 n1 cc1, .slice none 0 0, .int .i64 nq] 81)))) _ (Rw.mk a1 n1 cc1 none 0 0 nq) rfl (row_box' _ _ _ _ _ _ _ rfl) HRl.out ?_); intro v8 w6 h6 g6; have H6 := Lh h6; have e9 := w9.out; have HD6 := Lh (Dat.grown (HD.out.gr (HGP.out.trans ((Gr.refl wP).alloc (.cells #[.slice a1 n1 cc1, .slice none 0 0, .int .i64 nq] 81)))) (HO.out.gr (HGP.out.trans ((Gr.refl wP).alloc (.cells #[.slice a1 n1 cc1, .slice none 0 0, .int .i64 nq] 81)))) g6); clear h6 g6 hwP i1))
   go_roundw
   case rel => exact ⟨k + 1, Hlt.out, by first | rw [e9] | rfl, _, Lh H6.out, Lh (by
    rw [HTk.out, begH_snoc, HFr.out, if_pos HKp.out]
    exact HD6.out.snoc (x := Rw.mk a1 n1 cc1 none 0 0 nq) (r := (L1, ([], nq))) (HX1.out.gr H6.out.2) ((Old.of_rd HX1.out.2.2.2.2 3).gr H6.out.2) ⟨⟨rfl, Nat.le_refl _, Nat.zero_le _, fun _ => rfl, .inl rfl⟩, .inl rfl, rfl⟩)⟩
   case measure => first | (rw [e9]; exact fallX Hlt.out) | exact fallX Hlt.out
  obtain rfl : k = n := by omega
  have i1 : ¬ (k : Int) < (k : Int) := by omega
  have HT := Lh (show T.take k = T from List.take_of_length_le (by have := HN.out.1; omega))
  clear hlt
  go_wp2_with fail
  go_ret
  exact ⟨_, raw, rfl, HO.out, by have := HD.out; rwa [HT.out] at this⟩
def Yb (d : SL × Int) : Prop := 0 ≤ d.2 ∧ d.2 ≤ 1000000000000001
theorem yb_in {d : SL × Int} (h : Yb d) : InY d.2 := by
 unfold Yb at h
 unfold InY
 omega
theorem yb_add {how : Int} (hh : how = 2 ∨ how = 3) (a b : SL × Int) (ha : Yb a) (hb : Yb b) : Yb (addH how a b) := by
 unfold Yb at *
 unfold addH
 rw [if_neg (by omega)]
 rcases hh with rfl | rfl
 ·rw [if_pos rfl]
  show 0 ≤ min (a.2 + b.2) (MX + 1) ∧ min (a.2 + b.2) (MX + 1) ≤ 1000000000000001
  unfold MX
  omega
 rw [if_neg (by decide)]
 show 0 ≤ min a.2 b.2 ∧ min a.2 b.2 ≤ 1000000000000001
 omega
def RetDn (T : Tbl (SL × Int)) (w : World) (e : Ending) (w' : World) : Prop := ∃ v raw, e = .returned v ∧ OwnR w w' v raw ∧ Dat w w' raw T
theorem done_or (how : Int) (hh : how = 2 ∨ how = 3) (w : World) (a : Option Addr) (n c : Nat) (U : Tbl (SL × Int)) (a' : Option Addr) (n' c' : Nat) (V : Tbl (SL × Int)) (hU : RdT w w a n c U) (hV : RdT w w a' n' c' V)
  (hl : U.length ≤ 1000 ∧ V.length ≤ 1000) (hyu : ∀ q ∈ U, Yb q.2) (hyv : ∀ q ∈ V, Yb q.2) :
  Calls Tryz.prog 84 #[.slice a n c, .slice a' n' c', .agg #[.int .i64 2, .int .i64 0, .int .i64 0], .int .i64 how] w (RetDn (gat (addH how) (U ++ V)) w) := by
 obtain ⟨rawU, hRU, hDU⟩ := hU
 obtain ⟨rawV, hRV, hDV⟩ := hV
 have HRU := Lh hRU
 have HRV := Lh hRV
 have HDU := Lh hDU
 have HDV := Lh hDV
 have HYU := Lh hyu
 have HYV := Lh hyv
 have HL := Lh hl
 have HN := Lh (show (n = U.length ∧ n ≤ 1000) ∧ n' = V.length ∧ n' ≤ 1000 by
  have := hRU.1; have := hDU.1; have := hRV.1; have := hDV.1
  omega)
 have gB := (Gr.refl w).alloc (.cells #[.int .i64 2, .int .i64 0, .int .i64 0] 128)
 have GB := Lh gB
 clear hRU hRV hDU hDV hyu hyv hl gB
 go_enter Tryz.func84, Tryz.ntmps84
 go_wp2_with fail
 go_loopw [30, 9] (fun si s9 wr => ∃ i : Nat, i ≤ n ∧ si = .int .i64 i ∧ ∃ raw, Hid (OwnR w wr s9 raw) ∧ Hid (Dat w wr raw (gat (addH how) (U.take i)))) (fun si _ _ => n - (intOf si).toNat)
 case atStart => exact ⟨0, Nat.zero_le _, rfl, [], Lh (OwnR.nil' GB.out), Lh (Dat.nil _ _)⟩
 case round =>
  obtain ⟨i, hi, rfl, raw, HO, HD⟩ := hrel
  by_cases hlt : i < n
  ·have i1 : (i : Int) < (n : Int) := by omega
   obtain ⟨b, o, x, hab, hx, z0, z1, z2⟩ := (HRU.out.gr HO.out.2).at hlt
   obtain ⟨q, hq, d1, d2, d3⟩ := HDU.out.at hx
   subst hab
   have HTk := Lh (show gat (addH how) (U.take (i + 1)) = plc (addH how) (gat (addH how) (U.take i)) q.1 q.2 by
    rw [List.take_add_one, hq]
    show gat (addH how) (U.take i ++ [q]) = _
    rw [gat_snoc])
   have HLn := Lh (show (gat (addH how) (U.take i)).length ≤ 10000 by
    have h1 := gat_len (addH how) (U.take i)
    skip
    have h2 : (U.take i).length ≤ U.length := by rw [List.length_take]; omega
    have := HL.out
    omega)
   have HYt := Lh (show ∀ p ∈ gat (addH how) (U.take i), InY p.2.2 from fun p hp => yb_in (gat_all (p := Yb) (addH how) (yb_add hh) _ (fun z hz => by
    skip
    skip
    exact HYU.out z (List.mem_of_mem_take hz)) p hp))
   have HYq := Lh (yb_in (HYU.out q (List.mem_of_getElem? hq)))
   have CP := Lh (fun W (k : Gr wr W) => place_any how hh w W _ raw _ x q (HO.out.gr k) (HD.out.gr k) (d1.gr (HO.out.2.trans k)) (d2.gr (HO.out.2.trans k)) (d3.gr (HO.out.2.trans k)) HLn.out HYt.out HYq.out)
   have Hlt := Lh hlt
   have w9 := Lh (show wrap64 ((i : Int) + 1) = ((i + 1 : Nat) : Int) by rw [IntWalk.wrap64_in _ (by have := HN.out; omega)]; omega)
   clear hx hq d1 d2 d3 hlt
   go_wp2_with (go_at_call 116; (refine (CP.out _ ((Gr.refl wr).alloc _)).mono ?_); rintro e w5 ⟨v5, raw5, rfl, h5, hd5, _⟩; have HH5 := Lh h5; have HD5 := Lh hd5; have e9 := w9.out; clear h5 hd5 CP i1)
   go_roundw
   case rel => exact ⟨i + 1, Hlt.out, by first | rw [e9] | rfl, _, Lh HH5.out, Lh (by rw [HTk.out]; exact HD5.out)⟩
   case measure => first | (rw [e9]; exact fallX Hlt.out) | exact fallX Hlt.out
  obtain rfl : i = n := by omega
  have i1 : ¬ (i : Int) < (i : Int) := by omega
  have HT1 := Lh (show U.take i = U from List.take_of_length_le (by have := HN.out.1.1; omega))
  clear hlt
  go_wp2_with fail
  go_loopw [41, 9] (fun si s9 wr => ∃ i : Nat, i ≤ n' ∧ si = .int .i64 i ∧ ∃ raw, Hid (OwnR w wr s9 raw) ∧ Hid (Dat w wr raw (gat (addH how) (U ++ V.take i)))) (fun si _ _ => n' - (intOf si).toNat)
  case atStart => exact ⟨0, Nat.zero_le _, rfl, raw, Lh HO.out, Lh (by rw [List.take_zero, List.append_nil]; have := HD.out; rwa [HT1.out] at this)⟩
  case round =>
   obtain ⟨i, hi, rfl, raw, HO, HD⟩ := hrel
   by_cases hlt : i < n'
   ·have i1 : (i : Int) < (n' : Int) := by omega
    obtain ⟨b, o, x, hab, hx, z0, z1, z2⟩ := (HRV.out.gr HO.out.2).at hlt
    obtain ⟨q, hq, d1, d2, d3⟩ := HDV.out.at hx
    subst hab
    have HTk := Lh (show gat (addH how) (U ++ V.take (i + 1)) = plc (addH how) (gat (addH how) (U ++ V.take i)) q.1 q.2 by
     rw [List.take_add_one, hq]
     show gat (addH how) (U ++ (V.take i ++ [q])) = _
     rw [← List.append_assoc, gat_snoc])
    have HLn := Lh (show (gat (addH how) (U ++ V.take i)).length ≤ 10000 by
     have h1 := gat_len (addH how) (U ++ V.take i)
     rw [List.length_append] at h1
     have h2 : (V.take i).length ≤ V.length := by rw [List.length_take]; omega
     have := HL.out
     omega)
    have HYt := Lh (show ∀ p ∈ gat (addH how) (U ++ V.take i), InY p.2.2 from fun p hp => yb_in (gat_all (p := Yb) (addH how) (yb_add hh) _ (fun z hz => by
     rcases List.mem_append.1 hz with hz | hz
     ·exact HYU.out z hz
     exact HYV.out z (List.mem_of_mem_take hz)) p hp))
    have HYq := Lh (yb_in (HYV.out q (List.mem_of_getElem? hq)))
    have CP := Lh (fun W (k : Gr wr W) => place_any how hh w W _ raw _ x q (HO.out.gr k) (HD.out.gr k) (d1.gr (HO.out.2.trans k)) (d2.gr (HO.out.2.trans k)) (d3.gr (HO.out.2.trans k)) HLn.out HYt.out HYq.out)
    have Hlt := Lh hlt
    have w9 := Lh (show wrap64 ((i : Int) + 1) = ((i + 1 : Nat) : Int) by rw [IntWalk.wrap64_in _ (by have := HN.out; omega)]; omega)
    clear hx hq d1 d2 d3 hlt
    go_wp2_with (go_at_call 116; (refine (CP.out _ ((Gr.refl wr).alloc _)).mono ?_); rintro e w5 ⟨v5, raw5, rfl, h5, hd5, _⟩; have HH5 := Lh h5; have HD5 := Lh hd5; have e9 := w9.out; clear h5 hd5 CP i1)
    go_roundw
    case rel => exact ⟨i + 1, Hlt.out, by first | rw [e9] | rfl, _, Lh HH5.out, Lh (by rw [HTk.out]; exact HD5.out)⟩
    case measure => first | (rw [e9]; exact fallX Hlt.out) | exact fallX Hlt.out
   obtain rfl : i = n' := by omega
   have i1 : ¬ (i : Int) < (i : Int) := by omega
   have HT2 := Lh (show V.take i = V from List.take_of_length_le (by have := HN.out.2.1; omega))
   clear hlt
   go_wp2_with fail
   go_ret
   exact ⟨_, raw, rfl, HO.out, by have := HD.out; rwa [HT2.out] at this⟩
theorem done_pick (how : Int) (i : Nat) (m : Int) (w : World) (ua : Option Addr) (un uc : Nat) (a' : Option Addr) (n' c' : Nat) (V : Tbl (SL × Int)) (hV : RdT w w a' n' c' V) (hl : V.length ≤ 1000) (hi : ∀ q ∈ V, i < q.1.length) :
  Calls Tryz.prog 84 #[.slice ua un uc, .slice a' n' c', .agg #[.int .i64 5, .int .i64 i, .int .i64 m], .int .i64 how] w (RetDn ((V).filter fun z => keepsW (.pick i m) z.1) w) := by
 obtain ⟨rawV, hRV, hDV⟩ := hV
 have HRV := Lh hRV
 have HDV := Lh hDV
 have HI := Lh hi
 have HN := Lh (show n' = V.length ∧ n' ≤ 1000 by
  have := hRV.1; have := hDV.1
  omega)
 obtain ⟨wB, hwB⟩ : ∃ wB, w.alloc (.cells #[.int .i64 5, .int .i64 i, .int .i64 m] 128) = wB := ⟨_, rfl⟩
 have gB : Gr w wB := hwB ▸ (Gr.refl w).alloc _
 obtain ⟨s0, s1, s2⟩ := box_tri w 5 i m 128
 rw [hwB] at s0 s1 s2
 have GB := Lh gB
 have S1 := Lh s1
 have S2 := Lh s2
 clear hRV hDV hl gB hi s1 s2
 go_enter Tryz.func84, Tryz.ntmps84
 generalize hbx : w.heap.size = bx at *
 go_wp2_with fail
 clear s0
 go_loopw [118, 9] (fun si s9 wr => ∃ k : Nat, k ≤ n' ∧ si = .int .i64 k ∧ ∃ raw, Hid (OwnR wB wr s9 raw) ∧ Hid (Dat w wr raw ((V.take k).filter fun z => keepsW (.pick i m) z.1))) (fun si _ _ => n' - (intOf si).toNat)
 case atStart => exact ⟨0, Nat.zero_le _, rfl, [], Lh (OwnR.nil' (Gr.refl _)), Lh (Dat.nil _ _)⟩
 case round =>
  obtain ⟨k, hk, rfl, raw, HO, HD⟩ := hrel
  by_cases hlt : k < n'
  ·have i1 : (k : Int) < (n' : Int) := by omega
   obtain ⟨b, o, x, hab, hx, z0, z1, z2⟩ := HRV.out.at hlt
   obtain ⟨q, hq, d1, d2, d3⟩ := HDV.out.at hx
   subst hab
   have hiq := HI.out q (List.mem_of_getElem? hq)
   have gw : Gr w wr := GB.out.trans HO.out.2
   replace z0 := gw.cell z0
   replace z1 := gw.cell z1
   replace z2 := gw.cell z2
   obtain ⟨vb, vo, hva, hvc⟩ := (d1.gr gw).2.2.2.2.at (show i < x.n by have := d1.1; omega)
   have v1 := hvc i (by have := d1.1; omega)
   have t1 := HO.out.2.cell S1.out
   have t2 := HO.out.2.cell S2.out
   have Hlt := Lh hlt
   have w9 := Lh (show wrap64 ((k : Int) + 1) = ((k + 1 : Nat) : Int) by rw [IntWalk.wrap64_in _ (by have := HN.out; omega)]; omega)
   have HRl := Lh (show raw.length < 999999 by
    have h1 := HD.out.1
    have h2 := List.length_filter_le (fun z : List Int × (SL × Int) => keepsW (.pick i m) z.1) (V.take k)
    rw [List.length_take] at h2
    have := HN.out
    omega)
   have hix : (i : Int) < (x.n : Int) := by have := d1.1; omega
   have HX1 := Lh (show Rd3 w (some ⟨vb, vo, none⟩) x.n x.c q.1 by rw [← hva]; exact d1)
   have HX2 := Lh (show Old w w 3 x.n (some ⟨vb, vo, none⟩) by rw [← hva]; exact d2)
   have HX3 := Lh (show Rep w w (Rw.mk (some ⟨vb, vo, none⟩) x.n x.c x.fa x.fn x.fc x.y) q.2 from ⟨d3.1, d3.2.1, d3.2.2⟩)
   rw [hva] at z0
   have HKQ := Lh (show keepsW (.pick i m) q.1 = decide (iv q.1 i = m) from rfl)
   by_cases hkp : iv q.1 i = m
   ·have hd := hkp
    have HTk := Lh (show ((V.take (k + 1)).filter fun z => keepsW (.pick i m) z.1) = ((V.take k).filter fun z => keepsW (.pick i m) z.1) ++ [q] by
     rw [List.take_add_one, hq, List.filter_append]
     simp only [Option.toList_some, List.filter_cons, List.filter_nil]
     rw [if_pos (by rw [HKQ.out]; exact decide_eq_true hkp)])
    have hbe : (iv q.1 i == m) = true := by simpa using hkp
    generalize iv q.1 i = u1 at *
    clear hx hq d1 d2 d3 hlt hvc hva gw hiq hkp hd
    go_upto_region 38 with fail
    obtain ⟨wE, hwE⟩ : ∃ W9, wr.alloc (.cells #[.slice (some ⟨vb, vo, none⟩) x.n x.c, .slice x.fa x.fn x.fc, .int .i64 x.y] 81) = W9 := ⟨_, rfl⟩
    rw [hwE]
    have gE : Gr wr wE := hwE ▸ (Gr.refl wr).alloc _
    obtain ⟨e0, e1, e2⟩ : wE.cell? ⟨wr.heap.size, 0, none⟩ = some (.slice (some ⟨vb, vo, none⟩) x.n x.c) ∧ wE.cell? ⟨wr.heap.size, 1, none⟩ = some (.slice x.fa x.fn x.fc) ∧ wE.cell? ⟨wr.heap.size, 2, none⟩ = some (.int .i64 x.y) := by rw [← hwE]; exact row_box wr _ _ _ _ _ _ _ 81
    replace v1 := gE.cell v1
    replace t1 := gE.cell t1
    replace t2 := gE.cell t2
    refine Hg (fun w' => Gr wE w') 9 ?_
    have hS : Gr wE wE.drew := (Gr.refl wE).drew
    obtain ⟨wT, hw9⟩ : ∃ W9, wE.drew = W9 := ⟨_, rfl⟩
    rw [hw9] at hS ⊢
    clear hw9
    refine H5 0 1 2 3 4 (c4 e0 v1 t1 t2) hS ?_; refine H4 5 6 7 8 (c4 e0 v1 t1 t2) hS ?_
    refine Hd ?_
    have HGT := Lh (gE.trans hS)
    have e9 := w9.out
    replace e0 := hS.cell e0
    replace e1 := hS.cell e1
    replace e2 := hS.cell e2
    clear hS hwE gE v1 t1 t2 i1
    go_wp2_with (at_builtin; go_must (refine wpList_app_row rfl _ _ 77 rfl Tryz.underlying77 _ raw rfl (HO.out.gr (HGT.out.trans ((Gr.refl wT).alloc (.cells #[.slice (some ⟨vb, vo, none⟩) x.n x.c, .slice x.fa x.fn x.fc, .int .i64 x.y] 81)))) _ (Rw.mk (some ⟨vb, vo, none⟩) x.n x.c x.fa x.fn x.fc x.y) rfl (row_box' _ _ _ _ _ _ _ rfl) HRl.out ?_); intro v8 w6 h6 g6; have H6 := Lh h6; have HD6 := Lh (Dat.grown (HD.out.gr (HGT.out.trans ((Gr.refl wT).alloc (.cells #[.slice (some ⟨vb, vo, none⟩) x.n x.c, .slice x.fa x.fn x.fc, .int .i64 x.y] 81)))) ((OwnR.base HO.out GB.out).gr (HGT.out.trans ((Gr.refl wT).alloc (.cells #[.slice (some ⟨vb, vo, none⟩) x.n x.c, .slice x.fa x.fn x.fc, .int .i64 x.y] 81)))) g6); clear h6 g6)
    go_roundw
    case rel => exact ⟨k + 1, Hlt.out, by first | rw [e9] | rfl, _, Lh H6.out, Lh (by
     rw [HTk.out]
     exact HD6.out.snoc (x := Rw.mk (some ⟨vb, vo, none⟩) x.n x.c x.fa x.fn x.fc x.y) (r := q) (HX1.out.gr (GB.out.trans H6.out.2)) (HX2.out.gr (GB.out.trans H6.out.2)) (HX3.out.gr (GB.out.trans H6.out.2)))⟩
    case measure => first | (rw [e9]; exact fallX Hlt.out) | exact fallX Hlt.out
   have HTk := Lh (show ((V.take (k + 1)).filter fun z => keepsW (.pick i m) z.1) = ((V.take k).filter fun z => keepsW (.pick i m) z.1) by
    rw [List.take_add_one, hq, List.filter_append]
    simp only [Option.toList_some, List.filter_cons, List.filter_nil]
    rw [if_neg (by rw [HKQ.out]; exact fun e => hkp (of_decide_eq_true e)), List.append_nil])
   have hbe : (iv q.1 i == m) = false := by simpa using hkp
   generalize iv q.1 i = u1 at *
   clear hx hq d1 d2 d3 hlt hvc hva gw hiq hkp
   go_upto_region 38 with fail
   obtain ⟨wE, hwE⟩ : ∃ W9, wr.alloc (.cells #[.slice (some ⟨vb, vo, none⟩) x.n x.c, .slice x.fa x.fn x.fc, .int .i64 x.y] 81) = W9 := ⟨_, rfl⟩
   rw [hwE]
   have gE : Gr wr wE := hwE ▸ (Gr.refl wr).alloc _
   obtain ⟨e0, e1, e2⟩ : wE.cell? ⟨wr.heap.size, 0, none⟩ = some (.slice (some ⟨vb, vo, none⟩) x.n x.c) ∧ wE.cell? ⟨wr.heap.size, 1, none⟩ = some (.slice x.fa x.fn x.fc) ∧ wE.cell? ⟨wr.heap.size, 2, none⟩ = some (.int .i64 x.y) := by rw [← hwE]; exact row_box wr _ _ _ _ _ _ _ 81
   replace v1 := gE.cell v1
   replace t1 := gE.cell t1
   replace t2 := gE.cell t2
   refine Hg (fun w' => Gr wE w') 9 ?_
   have hS : Gr wE wE.drew := (Gr.refl wE).drew
   obtain ⟨wT, hw9⟩ : ∃ W9, wE.drew = W9 := ⟨_, rfl⟩
   rw [hw9] at hS ⊢
   clear hw9
   refine H5 0 1 2 3 4 (c4 e0 v1 t1 t2) hS ?_; refine H4 5 6 7 8 (c4 e0 v1 t1 t2) hS ?_
   refine Hd ?_
   have HGT := Lh (gE.trans hS)
   have e9 := w9.out
   replace e0 := hS.cell e0
   replace e1 := hS.cell e1
   replace e2 := hS.cell e2
   clear hS hwE gE v1 t1 t2 i1
   go_wp2_with fail
   go_roundw
   case rel => exact ⟨k + 1, Hlt.out, by first | rw [e9] | rfl, raw, Lh (HO.out.gr HGT.out), Lh (by
    rw [HTk.out]
    exact HD.out.gr HGT.out)⟩
   case measure => first | (rw [e9]; exact fallX Hlt.out) | exact fallX Hlt.out
  obtain rfl : k = n' := by omega
  have i1 : ¬ (k : Int) < (k : Int) := by omega
  have HT := Lh (show V.take k = V from List.take_of_length_le (by have := HN.out.1; omega))
  clear hlt
  go_wp2_with fail
  go_ret
  exact ⟨_, raw, rfl, OwnR.base HO.out GB.out, by have := HD.out; rwa [HT.out] at this⟩
theorem done_same (how : Int) (i m : Nat) (w : World) (ua : Option Addr) (un uc : Nat) (a' : Option Addr) (n' c' : Nat) (V : Tbl (SL × Int)) (hV : RdT w w a' n' c' V) (hl : V.length ≤ 1000) (hi : ∀ q ∈ V, i < q.1.length ∧ m < q.1.length) :
  Calls Tryz.prog 84 #[.slice ua un uc, .slice a' n' c', .agg #[.int .i64 6, .int .i64 i, .int .i64 m], .int .i64 how] w (RetDn ((V).filter fun z => keepsW (.same i m) z.1) w) := by
 obtain ⟨rawV, hRV, hDV⟩ := hV
 have HRV := Lh hRV
 have HDV := Lh hDV
 have HI := Lh hi
 have HN := Lh (show n' = V.length ∧ n' ≤ 1000 by
  have := hRV.1; have := hDV.1
  omega)
 obtain ⟨wB, hwB⟩ : ∃ wB, w.alloc (.cells #[.int .i64 6, .int .i64 i, .int .i64 m] 128) = wB := ⟨_, rfl⟩
 have gB : Gr w wB := hwB ▸ (Gr.refl w).alloc _
 obtain ⟨s0, s1, s2⟩ := box_tri w 6 i m 128
 rw [hwB] at s0 s1 s2
 have GB := Lh gB
 have S1 := Lh s1
 have S2 := Lh s2
 clear hRV hDV hl gB hi s1 s2
 go_enter Tryz.func84, Tryz.ntmps84
 generalize hbx : w.heap.size = bx at *
 go_wp2_with fail
 clear s0
 go_loopw [140, 9] (fun si s9 wr => ∃ k : Nat, k ≤ n' ∧ si = .int .i64 k ∧ ∃ raw, Hid (OwnR wB wr s9 raw) ∧ Hid (Dat w wr raw ((V.take k).filter fun z => keepsW (.same i m) z.1))) (fun si _ _ => n' - (intOf si).toNat)
 case atStart => exact ⟨0, Nat.zero_le _, rfl, [], Lh (OwnR.nil' (Gr.refl _)), Lh (Dat.nil _ _)⟩
 case round =>
  obtain ⟨k, hk, rfl, raw, HO, HD⟩ := hrel
  by_cases hlt : k < n'
  ·have i1 : (k : Int) < (n' : Int) := by omega
   obtain ⟨b, o, x, hab, hx, z0, z1, z2⟩ := HRV.out.at hlt
   obtain ⟨q, hq, d1, d2, d3⟩ := HDV.out.at hx
   subst hab
   have hiq := HI.out q (List.mem_of_getElem? hq)
   have gw : Gr w wr := GB.out.trans HO.out.2
   replace z0 := gw.cell z0
   replace z1 := gw.cell z1
   replace z2 := gw.cell z2
   obtain ⟨vb, vo, hva, hvc⟩ := (d1.gr gw).2.2.2.2.at (show i < x.n by have := d1.1; omega)
   have v1 := hvc i (by have := d1.1; omega)
   have v2 := hvc m (by have := d1.1; omega)
   have t1 := HO.out.2.cell S1.out
   have t2 := HO.out.2.cell S2.out
   have Hlt := Lh hlt
   have w9 := Lh (show wrap64 ((k : Int) + 1) = ((k + 1 : Nat) : Int) by rw [IntWalk.wrap64_in _ (by have := HN.out; omega)]; omega)
   have HRl := Lh (show raw.length < 999999 by
    have h1 := HD.out.1
    have h2 := List.length_filter_le (fun z : List Int × (SL × Int) => keepsW (.same i m) z.1) (V.take k)
    rw [List.length_take] at h2
    have := HN.out
    omega)
   have hix : (i : Int) < (x.n : Int) := by have := d1.1; omega
   have hmx : (m : Int) < (x.n : Int) := by have := d1.1; omega
   have HX1 := Lh (show Rd3 w (some ⟨vb, vo, none⟩) x.n x.c q.1 by rw [← hva]; exact d1)
   have HX2 := Lh (show Old w w 3 x.n (some ⟨vb, vo, none⟩) by rw [← hva]; exact d2)
   have HX3 := Lh (show Rep w w (Rw.mk (some ⟨vb, vo, none⟩) x.n x.c x.fa x.fn x.fc x.y) q.2 from ⟨d3.1, d3.2.1, d3.2.2⟩)
   rw [hva] at z0
   have HKQ := Lh (show keepsW (.same i m) q.1 = decide (iv q.1 i = iv q.1 m) from rfl)
   by_cases hkp : iv q.1 i = iv q.1 m
   ·have hd := hkp
    have HTk := Lh (show ((V.take (k + 1)).filter fun z => keepsW (.same i m) z.1) = ((V.take k).filter fun z => keepsW (.same i m) z.1) ++ [q] by
     rw [List.take_add_one, hq, List.filter_append]
     simp only [Option.toList_some, List.filter_cons, List.filter_nil]
     rw [if_pos (by rw [HKQ.out]; exact decide_eq_true hkp)])
    have hbe : (iv q.1 i == iv q.1 m) = true := by simpa using hkp
    generalize iv q.1 i = u1 at *
    generalize iv q.1 m = u2 at *
    clear hx hq d1 d2 d3 hlt hvc hva gw hiq hkp hd
    go_upto_region 45 with fail
    obtain ⟨wE, hwE⟩ : ∃ W9, wr.alloc (.cells #[.slice (some ⟨vb, vo, none⟩) x.n x.c, .slice x.fa x.fn x.fc, .int .i64 x.y] 81) = W9 := ⟨_, rfl⟩
    rw [hwE]
    have gE : Gr wr wE := hwE ▸ (Gr.refl wr).alloc _
    obtain ⟨e0, e1, e2⟩ : wE.cell? ⟨wr.heap.size, 0, none⟩ = some (.slice (some ⟨vb, vo, none⟩) x.n x.c) ∧ wE.cell? ⟨wr.heap.size, 1, none⟩ = some (.slice x.fa x.fn x.fc) ∧ wE.cell? ⟨wr.heap.size, 2, none⟩ = some (.int .i64 x.y) := by rw [← hwE]; exact row_box wr _ _ _ _ _ _ _ 81
    replace v1 := gE.cell v1
    replace t1 := gE.cell t1
    replace t2 := gE.cell t2
    replace v2 := gE.cell v2
    refine Hg (fun w' => Gr wE w') 13 ?_
    have hS : Gr wE wE.drew := (Gr.refl wE).drew
    obtain ⟨wT, hw9⟩ : ∃ W9, wE.drew = W9 := ⟨_, rfl⟩
    rw [hw9] at hS ⊢
    clear hw9
    refine H12 0 1 2 3 4 5 6 7 8 9 10 11 (c5 e0 v1 t1 t2 v2) hS ?_; refine H1 12 (c5 e0 v1 t1 t2 v2) hS ?_
    refine Hd ?_
    have HGT := Lh (gE.trans hS)
    have e9 := w9.out
    replace e0 := hS.cell e0
    replace e1 := hS.cell e1
    replace e2 := hS.cell e2
    clear hS hwE gE v1 t1 t2 i1 v2
    go_wp2_with (at_builtin; go_must (refine wpList_app_row rfl _ _ 77 rfl Tryz.underlying77 _ raw rfl (HO.out.gr (HGT.out.trans ((Gr.refl wT).alloc (.cells #[.slice (some ⟨vb, vo, none⟩) x.n x.c, .slice x.fa x.fn x.fc, .int .i64 x.y] 81)))) _ (Rw.mk (some ⟨vb, vo, none⟩) x.n x.c x.fa x.fn x.fc x.y) rfl (row_box' _ _ _ _ _ _ _ rfl) HRl.out ?_); intro v8 w6 h6 g6; have H6 := Lh h6; have HD6 := Lh (Dat.grown (HD.out.gr (HGT.out.trans ((Gr.refl wT).alloc (.cells #[.slice (some ⟨vb, vo, none⟩) x.n x.c, .slice x.fa x.fn x.fc, .int .i64 x.y] 81)))) ((OwnR.base HO.out GB.out).gr (HGT.out.trans ((Gr.refl wT).alloc (.cells #[.slice (some ⟨vb, vo, none⟩) x.n x.c, .slice x.fa x.fn x.fc, .int .i64 x.y] 81)))) g6); clear h6 g6)
    go_roundw
    case rel => exact ⟨k + 1, Hlt.out, by first | rw [e9] | rfl, _, Lh H6.out, Lh (by
     rw [HTk.out]
     exact HD6.out.snoc (x := Rw.mk (some ⟨vb, vo, none⟩) x.n x.c x.fa x.fn x.fc x.y) (r := q) (HX1.out.gr (GB.out.trans H6.out.2)) (HX2.out.gr (GB.out.trans H6.out.2)) (HX3.out.gr (GB.out.trans H6.out.2)))⟩
    case measure => first | (rw [e9]; exact fallX Hlt.out) | exact fallX Hlt.out
   have HTk := Lh (show ((V.take (k + 1)).filter fun z => keepsW (.same i m) z.1) = ((V.take k).filter fun z => keepsW (.same i m) z.1) by
    rw [List.take_add_one, hq, List.filter_append]
    simp only [Option.toList_some, List.filter_cons, List.filter_nil]
    rw [if_neg (by rw [HKQ.out]; exact fun e => hkp (of_decide_eq_true e)), List.append_nil])
   have hbe : (iv q.1 i == iv q.1 m) = false := by simpa using hkp
   generalize iv q.1 i = u1 at *
   generalize iv q.1 m = u2 at *
   clear hx hq d1 d2 d3 hlt hvc hva gw hiq hkp
   go_upto_region 45 with fail
   obtain ⟨wE, hwE⟩ : ∃ W9, wr.alloc (.cells #[.slice (some ⟨vb, vo, none⟩) x.n x.c, .slice x.fa x.fn x.fc, .int .i64 x.y] 81) = W9 := ⟨_, rfl⟩
   rw [hwE]
   have gE : Gr wr wE := hwE ▸ (Gr.refl wr).alloc _
   obtain ⟨e0, e1, e2⟩ : wE.cell? ⟨wr.heap.size, 0, none⟩ = some (.slice (some ⟨vb, vo, none⟩) x.n x.c) ∧ wE.cell? ⟨wr.heap.size, 1, none⟩ = some (.slice x.fa x.fn x.fc) ∧ wE.cell? ⟨wr.heap.size, 2, none⟩ = some (.int .i64 x.y) := by rw [← hwE]; exact row_box wr _ _ _ _ _ _ _ 81
   replace v1 := gE.cell v1
   replace t1 := gE.cell t1
   replace t2 := gE.cell t2
   replace v2 := gE.cell v2
   refine Hg (fun w' => Gr wE w') 13 ?_
   have hS : Gr wE wE.drew := (Gr.refl wE).drew
   obtain ⟨wT, hw9⟩ : ∃ W9, wE.drew = W9 := ⟨_, rfl⟩
   rw [hw9] at hS ⊢
   clear hw9
   refine H12 0 1 2 3 4 5 6 7 8 9 10 11 (c5 e0 v1 t1 t2 v2) hS ?_; refine H1 12 (c5 e0 v1 t1 t2 v2) hS ?_
   refine Hd ?_
   have HGT := Lh (gE.trans hS)
   have e9 := w9.out
   replace e0 := hS.cell e0
   replace e1 := hS.cell e1
   replace e2 := hS.cell e2
   clear hS hwE gE v1 t1 t2 i1 v2
   go_wp2_with fail
   go_roundw
   case rel => exact ⟨k + 1, Hlt.out, by first | rw [e9] | rfl, raw, Lh (HO.out.gr HGT.out), Lh (by
    rw [HTk.out]
    exact HD.out.gr HGT.out)⟩
   case measure => first | (rw [e9]; exact fallX Hlt.out) | exact fallX Hlt.out
  obtain rfl : k = n' := by omega
  have i1 : ¬ (k : Int) < (k : Int) := by omega
  have HT := Lh (show V.take k = V from List.take_of_length_le (by have := HN.out.1; omega))
  clear hlt
  go_wp2_with fail
  go_ret
  exact ⟨_, raw, rfl, OwnR.base HO.out GB.out, by have := HD.out; rwa [HT.out] at this⟩
theorem Rd3.takeK {w : World} {a : Option Addr} {n c k : Nat} {L : List Int} (h : Rd3 w a n c L) (hk : k ≤ n) : Rd3 w a k c (L.take k) := by
 refine ⟨by rw [List.length_take]; have := h.1; omega, by have := h.2.1; omega, h.2.2.1, h.2.2.2.1, ?_⟩
 by_cases h0 : k = 0
 ·exact .inl h0
 obtain ⟨b, o, e, hc⟩ := h.2.2.2.2.at (show 0 < n by omega)
 refine .inr ⟨b, o, e, fun i hi => ?_⟩
 rw [hc i (by omega), iv_tk hi]
theorem Rd3.dropK {w : World} {b off n c k : Nat} {L : List Int} (h : Rd3 w (some ⟨b, off, none⟩) n c L) (hk : k ≤ n) : Rd3 w (some ⟨b, off + k, none⟩) (n - k) (c - k) (L.drop k) := by
 refine ⟨by rw [List.length_drop]; have := h.1; omega, by have := h.2.1; omega, by have := h.2.2.1; omega, (fun e => by cases e), ?_⟩
 by_cases h0 : n - k = 0
 ·exact .inl h0
 obtain ⟨b', o', e, hc⟩ := h.2.2.2.2.at (show 0 < n by omega)
 cases e
 refine .inr ⟨b, off + k, rfl, fun i hi => ?_⟩
 have := hc (k + i) (by omega)
 rw [show off + k + i = off + (k + i) by omega, this]
 unfold iv
 simp [List.getD_eq_getElem?_getD]
theorem put0w {W : World} {b : Nat} {u v0 v1 v2 : Value} (x0 : W.cell? ⟨b, 0, none⟩ = some u) (x1 : W.cell? ⟨b, 1, none⟩ = some v1) (x2 : W.cell? ⟨b, 2, none⟩ = some v2) : (W.setCell ⟨b, 0, none⟩ v0).cell? ⟨b, 0, none⟩ = some v0 ∧ (W.setCell ⟨b, 0, none⟩ v0).cell? ⟨b, 1, none⟩ = some v1 ∧ (W.setCell ⟨b, 0, none⟩ v0).cell? ⟨b, 2, none⟩ = some v2 := by
 refine ⟨cell_near x0 _, ?_, ?_⟩
 ·rw [World.cell?_setCell_other _ _ _ _ (by simp)]; exact x1
 rw [World.cell?_setCell_other _ _ _ _ (by simp)]; exact x2
def BoxW (W : World) (b i : Nat) : Prop := W.heap[b]? = some (.cells #[.int .i64 4, .int .i64 (i : Int), .int .i64 0] 128 (0, 0))
theorem BoxW.gr {W W' : World} {b i : Nat} (h : BoxW W b i) (g : Gr W W') : BoxW W' b i := (Below.block g b (Array.getElem?_eq_some_iff.1 h).1).trans h
theorem BoxW.at {W : World} {b i : Nat} (h : BoxW W b i) : W.cell? ⟨b, 1, none⟩ = some (.int .i64 i) := (cell_of_row W b 1 _ 128 (0, 0) h).trans rfl
theorem BoxW.grown {w0 W W' : World} {b i : Nat} {v : Value} {raw : List Rw} (h : BoxW W b i) (ho : OwnR w0 W v raw) (g : W.grownBy W' v.ownBlock) : BoxW W' b i := by
 refine (g.block b (Array.getElem?_eq_some_iff.1 h).1 (fun e => ?_)).trans h
 rcases ho.blk with ⟨rfl, _⟩ | ⟨g', c, cur, rfl, _, _, _, _, hg, _⟩
 ·cases e
 cases e
 unfold BoxW at h
 rw [h] at hg
 cases hg
theorem done_drop (how : Int) (hh : how = 2 ∨ how = 3) (i : Nat) (w : World) (ua : Option Addr) (un uc : Nat) (a' : Option Addr) (n' c' : Nat) (V : Tbl (SL × Int)) (hV : RdT w w a' n' c' V) (hl : V.length ≤ 1000) (hi : ∀ q ∈ V, i < q.1.length ∧ q.1.length ≤ 1000) (hy : ∀ q ∈ V, Yb q.2) :
  Calls Tryz.prog 84 #[.slice ua un uc, .slice a' n' c', .agg #[.int .i64 4, .int .i64 i, .int .i64 0], .int .i64 how] w (RetDn (gat (addH how) (V.map fun x => (x.1.eraseIdx i, x.2))) w) := by
 obtain ⟨rawV, hRV, hDV⟩ := hV
 have HRV := Lh hRV
 have HDV := Lh hDV
 have HI := Lh hi
 have HYV := Lh hy
 have HN := Lh (show n' = V.length ∧ n' ≤ 1000 by
  have := hRV.1; have := hDV.1
  omega)
 obtain ⟨wB, hwB⟩ : ∃ wB, w.alloc (.cells #[.int .i64 4, .int .i64 i, .int .i64 0] 128) = wB := ⟨_, rfl⟩
 have gB : Gr w wB := hwB ▸ (Gr.refl w).alloc _
 obtain ⟨s0, s1, s2⟩ := box_tri w 4 i 0 128
 rw [hwB] at s0 s1 s2
 have GB := Lh gB
 have S1 := Lh (show BoxW wB w.heap.size i from hwB ▸ heap_alloc_new w _)
 clear hRV hDV hl gB hi hy s1 s2
 go_enter Tryz.func84, Tryz.ntmps84
 generalize hbx : w.heap.size = bx at *
 go_wp2_with fail
 clear s0
 go_loopw [90, 9] (fun si s9 wr => ∃ k : Nat, k ≤ n' ∧ si = .int .i64 k ∧ ∃ raw, Hid (OwnR w wr s9 raw) ∧ Hid (BoxW wr bx i) ∧ Hid (Dat w wr raw (gat (addH how) ((V.take k).map fun x => (x.1.eraseIdx i, x.2))))) (fun si _ _ => n' - (intOf si).toNat)
 case atStart => exact ⟨0, Nat.zero_le _, rfl, [], Lh (OwnR.nil' GB.out), S1, Lh (Dat.nil _ _)⟩
 case round =>
  obtain ⟨k, hk, rfl, raw, HO, HW, HD⟩ := hrel
  by_cases hlt : k < n'
  ·have i1 : (k : Int) < (n' : Int) := by omega
   obtain ⟨b, o, x, hab, hx, z0, z1, z2⟩ := HRV.out.at hlt
   obtain ⟨q, hq, d1, d2, d3⟩ := HDV.out.at hx
   subst hab
   obtain ⟨hiq, hiq2⟩ := HI.out q (List.mem_of_getElem? hq)
   have gw : Gr w wr := HO.out.2
   replace z0 := gw.cell z0
   replace z1 := gw.cell z1
   replace z2 := gw.cell z2
   obtain ⟨vb, vo, hva, _⟩ := d1.2.2.2.2.at (show i < x.n by have := d1.1; omega)
   rw [hva] at z0 d1
   have t1 := HW.out.at
   have Hlt := Lh hlt
   have w9 := Lh (show wrap64 ((k : Int) + 1) = ((k + 1 : Nat) : Int) by rw [IntWalk.wrap64_in _ (by have := HN.out; omega)]; omega)
   have HA := Lh (fun W (g : Gr wr W) => Rd3.takeK (d1.gr (gw.trans g)) (k := i) (by have := d1.1; omega))
   have HK1 := Lh (show ([] : List Int).length + i ≤ 1000000 by simp; omega)
   obtain ⟨i2, hi2⟩ : ∃ i2, i + 1 = i2 := ⟨_, rfl⟩
   have HEr := Lh (show q.1.eraseIdx i = [] ++ q.1.take i ++ q.1.drop i2 by rw [List.nil_append, ← hi2, List.eraseIdx_eq_take_drop_succ])
   have HK2 := Lh (show ([] ++ q.1.take i).length + (x.n - i2) ≤ 1000000 by have := d1.1; simp; omega)
   have f1 : wrap64 ((i : Int) + 1) = (i2 : Int) := by rw [IntWalk.wrap64_in _ (by omega)]; omega
   have f2 : IntKind.i64.wrap ((i : Int) + 1) = (i2 : Int) := by rw [IntWalk.i64_in _ (by omega)]; omega
   have cc1 : (i : Int) ≤ (x.n : Int) := by have := d1.1; omega
   have cc2 : (i2 : Int) ≤ (x.n : Int) := by have := d1.1; omega
   have cc3 : (i : Int) ≤ (x.c : Int) := by have := d1.1; have := d1.2.1; omega
   have cc4 : (x.n : Int) ≤ (x.c : Int) := by have := d1.2.1; omega
   have cc5 : (i2 : Int) ≤ (x.c : Int) := by omega
   have HX3 := Lh d3
   have HTk := Lh (show gat (addH how) ((V.take (k + 1)).map fun x => (x.1.eraseIdx i, x.2)) = plc (addH how) (gat (addH how) ((V.take k).map fun x => (x.1.eraseIdx i, x.2))) (q.1.eraseIdx i) q.2 by
    rw [List.take_add_one, hq, List.map_append]
    exact gat_snoc _ _ (q.1.eraseIdx i, q.2))
   have HLn := Lh (show (gat (addH how) ((V.take k).map fun x => (x.1.eraseIdx i, x.2))).length ≤ 10000 by
    have h1 := gat_len (addH how) ((V.take k).map fun x => (x.1.eraseIdx i, x.2))
    rw [List.length_map, List.length_take] at h1
    have := HN.out
    omega)
   have HYt := Lh (show ∀ p ∈ gat (addH how) ((V.take k).map fun x => (x.1.eraseIdx i, x.2)), InY p.2.2 from fun p hp => yb_in (gat_all (p := Yb) (addH how) (yb_add hh) _ (fun z hz => by
    obtain ⟨z', hz', rfl⟩ := List.mem_map.1 hz
    exact HYV.out z' (List.mem_of_mem_take hz')) p hp))
   have HYq := Lh (yb_in (HYV.out q (List.mem_of_getElem? hq)))
   by_cases hce : i2 = x.c
   ·have HB := Lh (fun W (_ : Gr wr W) => show Rd3 W (some ⟨vb, vo, none⟩) (x.n - i2) 0 (q.1.drop i2) from ⟨by rw [List.length_drop]; have := d1.1; omega, by have := d1.2.1; omega, by omega, (fun e => by cases e), .inl (by have := d1.2.1; omega)⟩)
    have HC2x := Lh hce.symm
    clear hx hq d1 d2 d3 hlt hva hiq hiq2 hi2 hce
    go_upto_region 31 with fail
    obtain ⟨wE, hwE⟩ : ∃ W9, wr.alloc (.cells #[.slice (some ⟨vb, vo, none⟩) x.n x.c, .slice x.fa x.fn x.fc, .int .i64 x.y] 81) = W9 := ⟨_, rfl⟩
    rw [hwE]
    have HsE : wr.heap.size < wE.heap.size := by rw [← hwE]; simp
    have gE : Gr wr wE := hwE ▸ (Gr.refl wr).alloc _
    obtain ⟨e0, e1, e2⟩ : wE.cell? ⟨wr.heap.size, 0, none⟩ = some (.slice (some ⟨vb, vo, none⟩) x.n x.c) ∧ wE.cell? ⟨wr.heap.size, 1, none⟩ = some (.slice x.fa x.fn x.fc) ∧ wE.cell? ⟨wr.heap.size, 2, none⟩ = some (.int .i64 x.y) := by rw [← hwE]; exact row_box wr _ _ _ _ _ _ _ 81
    obtain ⟨_, fe0, fe1, fe2⟩ : St3 wE wr.heap.size := by rw [← hwE]; exact St3.new (Gr.refl _)
    replace t1 := gE.cell t1
    refine (wpIn_wide (n := 3)).1 ?_
    refine wpIn_region_mark (fun w' => Gr wE w') 15 16 (by kernel_rfl) rfl rfl ?_
    have hS : Gr wE wE.drew := (Gr.refl wE).drew
    obtain ⟨wU, hw9⟩ : ∃ W9, wE.drew = W9 := ⟨_, rfl⟩
    rw [hw9] at hS ⊢
    clear hw9
    refine Mk 1 rfl (c2 e0 t1) hS ?_; refine Mk 2 rfl (c2 e0 t1) hS ?_; refine Mk 3 rfl (c2 e0 t1) hS ?_; refine Mk 4 rfl (c2 e0 t1) hS ?_; refine Mk 5 rfl (c2 e0 t1) hS ?_; refine Mk 7 rfl (c2 e0 t1) hS ?_; refine Mk 8 rfl (c2 e0 t1) hS ?_; refine Mk 9 rfl (c2 e0 t1) hS ?_; refine Mk 10 rfl (c2 e0 t1) hS ?_; refine Mk 11 rfl (c2 e0 t1) hS ?_; refine Mk 12 rfl (fun w' hSw => And.intro (hSw.cell e0) (And.intro (hSw.cell t1) (HC2x.out))) hS ?_
    refine wpAnyMIn_ready [0] (by kernel_rfl) (by simp) ?_
    refine AllMIn.cons rfl (by rfl) (fun K hK => ?_) AllMIn.nil
    obtain ⟨wY, hY⟩ : ∃ W9, wU.alloc (.cells #[] 3) = W9 := ⟨_, rfl⟩
    go_simp
    try rw [hY]
    have gY : Gr wU wY := hY ▸ (Gr.refl wU).alloc _
    have H9 := Lh (hY ▸ OwnL.lit0 wU : OwnL wU wY (.slice (some ⟨wU.heap.size, 0, none⟩) 0 0) [])
    have HGb := Lh hS
    have hS : Gr wE wY := hS.trans gY
    refine hK.out _ _ (fun _ => hS) ?_
    clear hK K hY
    refine wpAnyMIn_ready [6] (by kernel_rfl) (by simp) ?_
    refine AllMIn.cons rfl (by rfl) (fun K hK => ?_) AllMIn.nil
    refine wpIn_cat_rd _ _ rfl _ [] (q.1.take i) rfl H9.out _ i _ rfl (HA.out _ (gE.trans hS)) HK1.out ?_
    intro v6 wZ h4 g4
    have H9 := Lh h4
    have hS : Gr wE wZ := HGb.out.trans h4.2
    clear h4 g4
    refine hK.out _ _ (fun _ => hS) ?_
    clear hK K
    refine wpAnyMIn_ready [13] (by kernel_rfl) (by simp) ?_
    refine AllMIn.cons rfl (by rfl) (fun K hK => ?_) AllMIn.nil
    refine wpIn_cat_rd _ _ rfl _ ([] ++ q.1.take i) (q.1.drop i2) rfl H9.out _ (x.n - i2) _ rfl (HB.out _ (gE.trans hS)) HK2.out ?_
    intro v7 wV h4 g4
    obtain ⟨b7, cc7, rfl, hr7, ho7⟩ := h4.rd
    generalize hn7 : ([] ++ q.1.take i ++ q.1.drop i2).length = n7 at *
    have H9 := Lh h4
    have HR7 := Lh hr7
    have HO7 := Lh ho7
    have hS : Gr wE wV := HGb.out.trans h4.2
    clear h4 g4 hr7 ho7
    refine hK.out _ _ (fun _ => hS) ?_
    clear hK K
    refine Mk 14 rfl (fun _ _ => trivial) hS ?_
    have x0 := hS.cell e0
    have g0 := (Below.frozen hS (World.block_lt_of_cell? _ _ e0)).trans fe0
    obtain ⟨wP, hwP⟩ : ∃ W9, wV.setCell ⟨wr.heap.size, 0, none⟩ (.slice b7 n7 cc7) = W9 := ⟨_, rfl⟩
    refine wpAnyMIn_ready [15] (by kernel_rfl) (by simp) ?_
    refine AllMIn.cons rfl (by rfl) (fun K hK => ?_) AllMIn.nil
    go_simp
    try rw [hwP]
    refine hK.out _ _ (fun e => by first | cases e | simp at e) ?_
    clear hK K
    refine wpAnyMIn_done (by kernel_rfl) ?_ _
    have hS0 : Gr wE wV := HGb.out.trans H9.out.2
    have gP : wV.grownBy wP (some wr.heap.size) := hwP ▸ ((Wr.refl wr.heap.size wV).set 0 _)
    have HF := Lh (OwnL.far3 (H9.out.base (gw.trans (gE.trans HGb.out))) gw.size (fun e => by have h1 := (H9.out.1.lt _ e).1; have h2 := HGb.out.size; have h3 : wr.heap.size < wE.heap.size := HsE; omega) gP)
    obtain ⟨p0, p1, p2⟩ := put0w (v0 := .slice b7 n7 cc7) x0 (hS0.cell e1) (hS0.cell e2)
    rw [hwP] at p0 p1 p2
    have HGP := Lh (show Gr wr wP from hwP ▸ Gr.setAt (gE.trans hS0) (Nat.le_refl _) _)
    obtain ⟨a9, c9, e9', hr9, ho9⟩ := HF.out.rd
    rw [hn7] at e9' hr9 ho9
    cases e9'
    have CP := Lh (place_any how hh w wP _ raw _ (Rw.mk b7 n7 cc7 x.fa x.fn x.fc x.y) (q.1.eraseIdx i, q.2) (HO.out.gr HGP.out) (HD.out.gr HGP.out) (by rw [HEr.out]; exact hr9) ho9 ((HX3.out.gr (gw.trans HGP.out))) HLn.out HYt.out HYq.out)
    have e9 := w9.out
    clear hS0 gP hr9 ho9 hwP i1 HX3 x0 g0
    go_wp2_with (go_at_call 116; (refine CP.out.mono ?_); rintro e w5 ⟨v5, raw5, rfl, h5, hd5, g5, _⟩; have BX5 := Lh ((HW.out.gr HGP.out).grown (HO.out.gr HGP.out) g5); have HH5 := Lh h5; have HD5 := Lh hd5; clear h5 hd5 g5 CP)
    go_roundw
    case rel => exact ⟨k + 1, Hlt.out, by first | rw [e9] | rfl, _, HH5, BX5, Lh (by rw [HTk.out]; exact HD5.out)⟩
    case measure => first | (rw [e9]; exact fallX Hlt.out) | exact fallX Hlt.out
   have HB := Lh (fun W (g : Gr wr W) => Rd3.dropK (d1.gr (gw.trans g)) (k := i2) (by have := d1.1; omega))
   have HC2x := Lh (show ¬ x.c = i2 from fun e => hce e.symm)
   clear hx hq d1 d2 d3 hlt hva hiq hiq2 hi2 hce
   go_upto_region 31 with fail
   obtain ⟨wE, hwE⟩ : ∃ W9, wr.alloc (.cells #[.slice (some ⟨vb, vo, none⟩) x.n x.c, .slice x.fa x.fn x.fc, .int .i64 x.y] 81) = W9 := ⟨_, rfl⟩
   rw [hwE]
   have HsE : wr.heap.size < wE.heap.size := by rw [← hwE]; simp
   have gE : Gr wr wE := hwE ▸ (Gr.refl wr).alloc _
   obtain ⟨e0, e1, e2⟩ : wE.cell? ⟨wr.heap.size, 0, none⟩ = some (.slice (some ⟨vb, vo, none⟩) x.n x.c) ∧ wE.cell? ⟨wr.heap.size, 1, none⟩ = some (.slice x.fa x.fn x.fc) ∧ wE.cell? ⟨wr.heap.size, 2, none⟩ = some (.int .i64 x.y) := by rw [← hwE]; exact row_box wr _ _ _ _ _ _ _ 81
   obtain ⟨_, fe0, fe1, fe2⟩ : St3 wE wr.heap.size := by rw [← hwE]; exact St3.new (Gr.refl _)
   replace t1 := gE.cell t1
   refine (wpIn_wide (n := 3)).1 ?_
   refine wpIn_region_mark (fun w' => Gr wE w') 15 16 (by kernel_rfl) rfl rfl ?_
   have hS : Gr wE wE.drew := (Gr.refl wE).drew
   obtain ⟨wU, hw9⟩ : ∃ W9, wE.drew = W9 := ⟨_, rfl⟩
   rw [hw9] at hS ⊢
   clear hw9
   refine Mk 1 rfl (c2 e0 t1) hS ?_; refine Mk 2 rfl (c2 e0 t1) hS ?_; refine Mk 3 rfl (c2 e0 t1) hS ?_; refine Mk 4 rfl (c2 e0 t1) hS ?_; refine Mk 5 rfl (c2 e0 t1) hS ?_; refine Mk 7 rfl (c2 e0 t1) hS ?_; refine Mk 8 rfl (c2 e0 t1) hS ?_; refine Mk 9 rfl (c2 e0 t1) hS ?_; refine Mk 10 rfl (c2 e0 t1) hS ?_; refine Mk 11 rfl (c2 e0 t1) hS ?_; refine Mk 12 rfl (fun w' hSw => And.intro (hSw.cell e0) (And.intro (hSw.cell t1) (HC2x.out))) hS ?_
   refine wpAnyMIn_ready [0] (by kernel_rfl) (by simp) ?_
   refine AllMIn.cons rfl (by rfl) (fun K hK => ?_) AllMIn.nil
   obtain ⟨wY, hY⟩ : ∃ W9, wU.alloc (.cells #[] 3) = W9 := ⟨_, rfl⟩
   go_simp
   try rw [hY]
   have gY : Gr wU wY := hY ▸ (Gr.refl wU).alloc _
   have H9 := Lh (hY ▸ OwnL.lit0 wU : OwnL wU wY (.slice (some ⟨wU.heap.size, 0, none⟩) 0 0) [])
   have HGb := Lh hS
   have hS : Gr wE wY := hS.trans gY
   refine hK.out _ _ (fun _ => hS) ?_
   clear hK K hY
   refine wpAnyMIn_ready [6] (by kernel_rfl) (by simp) ?_
   refine AllMIn.cons rfl (by rfl) (fun K hK => ?_) AllMIn.nil
   refine wpIn_cat_rd _ _ rfl _ [] (q.1.take i) rfl H9.out _ i _ rfl (HA.out _ (gE.trans hS)) HK1.out ?_
   intro v6 wZ h4 g4
   have H9 := Lh h4
   have hS : Gr wE wZ := HGb.out.trans h4.2
   clear h4 g4
   refine hK.out _ _ (fun _ => hS) ?_
   clear hK K
   refine wpAnyMIn_ready [13] (by kernel_rfl) (by simp) ?_
   refine AllMIn.cons rfl (by rfl) (fun K hK => ?_) AllMIn.nil
   refine wpIn_cat_rd _ _ rfl _ ([] ++ q.1.take i) (q.1.drop i2) rfl H9.out _ (x.n - i2) _ rfl (HB.out _ (gE.trans hS)) HK2.out ?_
   intro v7 wV h4 g4
   obtain ⟨b7, cc7, rfl, hr7, ho7⟩ := h4.rd
   generalize hn7 : ([] ++ q.1.take i ++ q.1.drop i2).length = n7 at *
   have H9 := Lh h4
   have HR7 := Lh hr7
   have HO7 := Lh ho7
   have hS : Gr wE wV := HGb.out.trans h4.2
   clear h4 g4 hr7 ho7
   refine hK.out _ _ (fun _ => hS) ?_
   clear hK K
   refine Mk 14 rfl (fun _ _ => trivial) hS ?_
   have x0 := hS.cell e0
   have g0 := (Below.frozen hS (World.block_lt_of_cell? _ _ e0)).trans fe0
   obtain ⟨wP, hwP⟩ : ∃ W9, wV.setCell ⟨wr.heap.size, 0, none⟩ (.slice b7 n7 cc7) = W9 := ⟨_, rfl⟩
   refine wpAnyMIn_ready [15] (by kernel_rfl) (by simp) ?_
   refine AllMIn.cons rfl (by rfl) (fun K hK => ?_) AllMIn.nil
   go_simp
   try rw [hwP]
   refine hK.out _ _ (fun e => by first | cases e | simp at e) ?_
   clear hK K
   refine wpAnyMIn_done (by kernel_rfl) ?_ _
   have hS0 : Gr wE wV := HGb.out.trans H9.out.2
   have gP : wV.grownBy wP (some wr.heap.size) := hwP ▸ ((Wr.refl wr.heap.size wV).set 0 _)
   have HF := Lh (OwnL.far3 (H9.out.base (gw.trans (gE.trans HGb.out))) gw.size (fun e => by have h1 := (H9.out.1.lt _ e).1; have h2 := HGb.out.size; have h3 : wr.heap.size < wE.heap.size := HsE; omega) gP)
   obtain ⟨p0, p1, p2⟩ := put0w (v0 := .slice b7 n7 cc7) x0 (hS0.cell e1) (hS0.cell e2)
   rw [hwP] at p0 p1 p2
   have HGP := Lh (show Gr wr wP from hwP ▸ Gr.setAt (gE.trans hS0) (Nat.le_refl _) _)
   obtain ⟨a9, c9, e9', hr9, ho9⟩ := HF.out.rd
   rw [hn7] at e9' hr9 ho9
   cases e9'
   have CP := Lh (place_any how hh w wP _ raw _ (Rw.mk b7 n7 cc7 x.fa x.fn x.fc x.y) (q.1.eraseIdx i, q.2) (HO.out.gr HGP.out) (HD.out.gr HGP.out) (by rw [HEr.out]; exact hr9) ho9 ((HX3.out.gr (gw.trans HGP.out))) HLn.out HYt.out HYq.out)
   have e9 := w9.out
   clear hS0 gP hr9 ho9 hwP i1 HX3 x0 g0
   go_wp2_with (go_at_call 116; (refine CP.out.mono ?_); rintro e w5 ⟨v5, raw5, rfl, h5, hd5, g5, _⟩; have BX5 := Lh ((HW.out.gr HGP.out).grown (HO.out.gr HGP.out) g5); have HH5 := Lh h5; have HD5 := Lh hd5; clear h5 hd5 g5 CP)
   go_roundw
   case rel => exact ⟨k + 1, Hlt.out, by first | rw [e9] | rfl, _, HH5, BX5, Lh (by rw [HTk.out]; exact HD5.out)⟩
   case measure => first | (rw [e9]; exact fallX Hlt.out) | exact fallX Hlt.out
  obtain rfl : k = n' := by omega
  have i1 : ¬ (k : Int) < (k : Int) := by omega
  have HT := Lh (show V.take k = V from List.take_of_length_le (by have := HN.out.1; omega))
  clear hlt
  go_wp2_with fail
  go_ret
  exact ⟨_, raw, rfl, HO.out, by have := HD.out; rwa [HT.out] at this⟩
def Yj (d : SL × Int) : Prop := 0 ≤ d.2 ∧ d.2 ≤ 2000000000000002
theorem yj_in {d : SL × Int} (h : Yj d) : InY d.2 := by
 unfold Yj at h
 unfold InY
 omega
theorem yj_add {how : Int} (hh : how = 2 ∨ how = 3) (a b : SL × Int) (ha : Yj a) (hb : Yj b) : Yj (addH how a b) := by
 unfold Yj at *
 unfold addH
 rw [if_neg (by omega)]
 rcases hh with rfl | rfl
 ·rw [if_pos rfl]
  show 0 ≤ min (a.2 + b.2) (MX + 1) ∧ min (a.2 + b.2) (MX + 1) ≤ 2000000000000002
  unfold MX
  omega
 rw [if_neg (by decide)]
 show 0 ≤ min a.2 b.2 ∧ min a.2 b.2 ≤ 2000000000000002
 omega
theorem yj_mul {how : Int} (hh : how = 2 ∨ how = 3) (a b : SL × Int) (ha : Yb a) (hb : Yb b) (hp : how = 2 → 1 ≤ b.2) : Yj (mulH how a b) := by
 unfold Yb at *
 unfold Yj mulH
 rw [if_neg (by omega)]
 rcases hh with rfl | rfl
 ·rw [if_pos rfl]
  have hp := hp rfl
  split
  ·rename_i h
   have h1 := (Int.le_ediv_iff_mul_le (by omega)).1 h
   refine ⟨Int.mul_nonneg ha.1 hb.1, Int.le_trans h1 ?_⟩
   unfold MX
   omega
  show 0 ≤ MX + 1 ∧ MX + 1 ≤ 2000000000000002
  unfold MX
  omega
 rw [if_neg (by decide)]
 show 0 ≤ a.2 + b.2 ∧ a.2 + b.2 ≤ 2000000000000002
 omega
theorem plcs_all {D : Type} {p : D → Prop} (add : D → D → D) (hp : ∀ a b, p a → p b → p (add a b)) : ∀ (L out : Tbl D), (∀ x ∈ out, p x.2) → (∀ x ∈ L, p x.2) → ∀ x ∈ plcs add L out, p x.2
 | [], _, h, _ => h
 | y :: r, out, h, hL => plcs_all add hp r (plc add out y.1 y.2) (plc_all add hp out y.1 y.2 h (hL y List.mem_cons_self)) fun x hx => hL x (List.mem_cons_of_mem y hx)
theorem join1_snoc {D : Type} (mul : D → D → D) (x : List Int × D) (A : Tbl D) (y : List Int × D) : join1 mul x (A ++ [y]) = join1 mul x A ++ (if x.1.getD 0 0 = y.1.getD 0 0 then [(x.1 ++ y.1.drop 1, mul x.2 y.2)] else []) := by
 unfold join1
 rw [List.filter_append, List.map_append]
 congr 1
 by_cases h : x.1.getD 0 0 = y.1.getD 0 0
 ·rw [if_pos h, List.filter_cons, if_pos (decide_eq_true h)]
  rfl
 rw [if_neg h, List.filter_cons, if_neg (by rw [decide_eq_false h]; decide)]
 rfl
theorem join1_len {D : Type} (mul : D → D → D) (x : List Int × D) (A : Tbl D) : (join1 mul x A).length ≤ A.length := by
 unfold join1
 rw [List.length_map]
 exact List.length_filter_le _ _
theorem join1_all {D : Type} {p : D → Prop} {mul : D → D → D} {x : List Int × D} {A : Tbl D} (h : ∀ y ∈ A, p (mul x.2 y.2)) : ∀ z ∈ join1 mul x A, p z.2 := fun z hz => by
 unfold join1 at hz
 obtain ⟨y, hy, rfl⟩ := List.mem_map.1 hz
 exact h y (List.mem_filter.1 hy).1
theorem byR_cons {D : Type} (R : Rg D) (mulR : D → D → D) (v : Tbl D) (x : List Int × D) (r out : Tbl D) : byR R mulR v (x :: r) out = if okT R (plcs R.add (join1 mulR x v) out) = true then byR R mulR v r (plcs R.add (join1 mulR x v) out) else plcs R.add (join1 mulR x v) out := rfl
def BoxX (W : World) (b : Nat) (x : Rw) : Prop := W.cell? ⟨b, 0, none⟩ = some (.slice x.a x.n x.c) ∧ W.cell? ⟨b, 1, none⟩ = some (.slice x.fa x.fn x.fc) ∧ W.cell? ⟨b, 2, none⟩ = some (.int .i64 x.y)
theorem BoxX.gr {W W' : World} {b : Nat} {x : Rw} (h : BoxX W b x) (g : Gr W W') : BoxX W' b x := ⟨g.cell h.1, g.cell h.2.1, g.cell h.2.2⟩
theorem BoxX.grown {W W' : World} {b : Nat} {x : Rw} (h : BoxX W b x) {r : Option Nat} (g : W.grownBy W' r) (hne : r ≠ some b) : BoxX W' b x := by
 have k : b ≠ b → False := fun e => e rfl
 exact ⟨g.cell h.1 fun e => hne e.symm, g.cell h.2.1 fun e => hne e.symm, g.cell h.2.2 fun e => hne e.symm⟩
theorem done_by (how : Int) (hh : how = 2 ∨ how = 3) {mul : SL × Int → SL × Int → SL × Int} {st : SL × Int → Bool} (w : World) (a : Option Addr) (n c : Nat) (U : Tbl (SL × Int)) (a' : Option Addr) (n' c' : Nat) (V : Tbl (SL × Int)) (hU : RdT w w a n c U) (hV : RdT w w a' n' c' V)
  (hl : U.length ≤ 1000 ∧ V.length ≤ 1000) (hyu : ∀ q ∈ U, Yb q.2 ∧ 1 ≤ q.1.length ∧ q.1.length ≤ 1000) (hyv : ∀ q ∈ V, Yb q.2 ∧ (how = 2 → 1 ≤ q.2.2) ∧ 1 ≤ q.1.length ∧ q.1.length ≤ 1000) :
  Calls Tryz.prog 84 #[.slice a n c, .slice a' n' c', .agg #[.int .i64 3, .int .i64 0, .int .i64 0], .int .i64 how] w (RetDn (byR (RgH how mul st) (mulH how) V U []) w) := by
 obtain ⟨rawU, hRU, hDU⟩ := hU
 obtain ⟨rawV, hRV, hDV⟩ := hV
 have HRU := Lh hRU
 have HRV := Lh hRV
 have HDU := Lh hDU
 have HDV := Lh hDV
 have HYU := Lh hyu
 have HYV := Lh hyv
 have HL := Lh hl
 have HN := Lh (show (n = U.length ∧ n ≤ 1000) ∧ n' = V.length ∧ n' ≤ 1000 by
  have := hRU.1; have := hDU.1; have := hRV.1; have := hDV.1
  omega)
 have gB := (Gr.refl w).alloc (.cells #[.int .i64 3, .int .i64 0, .int .i64 0] 128)
 have GB := Lh gB
 obtain ⟨BY, hBY⟩ : ∃ T, byR (RgH how mul st) (mulH how) V U [] = T := ⟨_, rfl⟩
 rw [hBY]
 have HAdd := Lh (show (RgH how mul st).add = addH how from rfl)
 have HB0 := Lh (show byR (RgH how mul st) (mulH how) V (U.drop 0) [] = BY from hBY)
 clear hRU hRV hDU hDV hyu hyv hl gB hBY
 go_enter Tryz.func84, Tryz.ntmps84
 go_wp2_with fail
 go_loopw [54, 9] (fun si s9 wr => ∃ i : Nat, i ≤ n ∧ si = .int .i64 i ∧ ∃ raw T, Hid (OwnR w wr s9 raw) ∧ Hid (Dat w wr raw T) ∧ Hid (byR (RgH how mul st) (mulH how) V (U.drop i) T = BY) ∧ Hid (T.length ≤ 60 ∧ ∀ q ∈ T, Yj q.2)) (fun si _ _ => n - (intOf si).toNat)
 case atStart => exact ⟨0, Nat.zero_le _, rfl, [], [], Lh (OwnR.nil' GB.out), Lh (Dat.nil _ _), HB0, Lh ⟨Nat.zero_le _, fun q hq => by cases hq⟩⟩
 case round =>
  obtain ⟨i, hi, rfl, raw, T, HO, HD, HB, HT⟩ := hrel
  by_cases hlt : i < n
  ·have i1 : (i : Int) < (n : Int) := by omega
   obtain ⟨b, o, x, hab, hx, z0, z1, z2⟩ := (HRU.out.gr HO.out.2).at hlt
   obtain ⟨q, hq, d1, d2, d3⟩ := HDU.out.at hx
   subst hab
   have HQ := Lh (HYU.out q (List.mem_of_getElem? hq))
   have HDr := Lh (show U.drop i = q :: U.drop (i + 1) by
    obtain ⟨h1, h2⟩ := List.getElem?_eq_some_iff.1 hq
    rw [List.drop_eq_getElem_cons h1, h2])
   have HD1 := Lh d1
   have HD3 := Lh d3
   obtain ⟨ab, ao, haa, _⟩ := d1.2.2.2.2.at (show 0 < x.n by have := d1.1; have := HQ.out.2.1; omega)
   have Hlt := Lh hlt
   have w9 := Lh (show wrap64 ((i : Int) + 1) = ((i + 1 : Nat) : Int) by rw [IntWalk.wrap64_in _ (by have := HN.out; omega)]; omega)
   obtain ⟨wA, hwA⟩ : ∃ wA, wr.alloc (.cells #[.slice (some ⟨ab, ao, none⟩) x.n x.c, .slice x.fa x.fn x.fc, .int .i64 x.y] 81) = wA := ⟨_, rfl⟩
   have gA : Gr wr wA := hwA ▸ (Gr.refl wr).alloc _
   have HGA := Lh gA
   have HBX := Lh (show BoxX wA wr.heap.size x by unfold BoxX; rw [← hwA, haa]; exact row_box wr _ _ _ _ _ _ _ 81)
   have Hne := Lh (show u9.ownBlock ≠ some wr.heap.size from fun e => by
    have := (HO.out.1.lt _ e).2
    omega)
   have HBs := Lh (show wr.heap.size < wA.heap.size by rw [← hwA]; simp)
   obtain ⟨bx, hbx⟩ : ∃ bx, wr.heap.size = bx := ⟨_, rfl⟩
   rw [hbx] at HBX Hne HBs
   have HOa := Lh (HO.out.gr gA)
   have HDa := Lh (HD.out.gr gA)
   rw [haa] at z0
   clear hx hq d1 d2 d3 hlt gA haa
   go_wp2_with fail
   go_loopw [60, 9] (fun sj s9 wr => ∃ j : Nat, j ≤ n' ∧ sj = .int .i64 j ∧ ∃ raw, Hid (OwnR w wr s9 raw) ∧ Hid (Dat w wr raw (plcs (addH how) (join1 (mulH how) q (V.take j)) T)) ∧ Hid (BoxX wr bx x) ∧ Hid (s9.ownBlock ≠ some bx) ∧ Hid (bx < wr.heap.size)) (fun sj _ _ => n' - (intOf sj).toNat)
   case atStart => exact ⟨0, Nat.zero_le _, rfl, raw, Lh HOa.out, Lh (by rw [List.take_zero]; exact HDa.out), HBX, Hne, HBs⟩
   case round =>
    obtain ⟨j, hj, rfl, raw, HO, HD, HBX, Hne, HBs⟩ := hrel
    by_cases hlj : j < n'
    ·have i1 : (j : Int) < (n' : Int) := by omega
     obtain ⟨vb, vo, y, hab, hy, y0, y1, y2⟩ := HRV.out.at hlj
     obtain ⟨q2, hq2, d1, d2, d3⟩ := HDV.out.at hy
     subst hab
     have HQ2 := Lh (HYV.out q2 (List.mem_of_getElem? hq2))
     have gw : Gr w wr := HO.out.2
     replace y0 := gw.cell y0
     replace y1 := gw.cell y1
     replace y2 := gw.cell y2
     obtain ⟨bb, bo, hbb, hbc⟩ := (d1.gr gw).2.2.2.2.at (show 0 < y.n by have := d1.1; have := HQ2.out.2.2.1; omega)
     have v2 := hbc 0 (by have := d1.1; have := HQ2.out.2.2.1; omega)
     obtain ⟨ab, ao, haa, hac⟩ := (HD1.out.gr gw).2.2.2.2.at (show 0 < x.n by have := HD1.out.1; have := HQ.out.2.1; omega)
     have v1 := hac 0 (by have := HD1.out.1; have := HQ.out.2.1; omega)
     rw [Nat.add_zero] at v1 v2
     obtain ⟨x0, x1, x2⟩ := HBX.out
     rw [haa] at x0
     rw [hbb] at y0
     have hx0 : 0 < x.n := by have := HD1.out.1; have := HQ.out.2.1; omega
     have hy0 : 0 < y.n := by have := d1.1; have := HQ2.out.2.2.1; omega
     have Hlj := Lh hlj
     have w8 := Lh (show wrap64 ((j : Int) + 1) = ((j + 1 : Nat) : Int) by rw [IntWalk.wrap64_in _ (by have := HN.out; omega)]; omega)
     have HTj := Lh (show plcs (addH how) (join1 (mulH how) q (V.take (j + 1))) T = if iv q.1 0 = iv q2.1 0 then plc (addH how) (plcs (addH how) (join1 (mulH how) q (V.take j)) T) (q.1 ++ q2.1.drop 1) (mulH how q.2 q2.2) else plcs (addH how) (join1 (mulH how) q (V.take j)) T by
      rw [List.take_add_one, hq2]
      show plcs _ (join1 _ q (V.take j ++ [q2])) T = _
      rw [join1_snoc]
      show plcs _ (_ ++ if iv q.1 0 = iv q2.1 0 then _ else _) T = _
      split
      ·rw [plcs_snoc]
      rw [List.append_nil])
     have HLj := Lh (show (plcs (addH how) (join1 (mulH how) q (V.take j)) T).length ≤ 10000 by
      have h1 := plcs_len (addH how) (join1 (mulH how) q (V.take j)) T
      have h2 := join1_len (mulH how) q (V.take j)
      rw [List.length_take] at h2
      have := HL.out; have := HT.out.1
      omega)
     have HYj := Lh (show ∀ p ∈ plcs (addH how) (join1 (mulH how) q (V.take j)) T, InY p.2.2 from fun p hp => yj_in (plcs_all (p := Yj) (addH how) (yj_add hh) _ T HT.out.2 (join1_all fun z hz => yj_mul hh q.2 z.2 HQ.out.1 (HYV.out z (List.mem_of_mem_take hz)).1 (HYV.out z (List.mem_of_mem_take hz)).2.1) p hp))
     have HY2 := Lh (yj_in (yj_mul hh q.2 q2.2 HQ.out.1 HQ2.out.1 HQ2.out.2.1))
     have hqx : x.y = q.2.2 := HD3.out.2.2
     have hqy : y.y = q2.2.2 := d3.2.2
     have CJ := Lh (fun W (k : Gr wr W) => show Calls Tryz.prog 117 #[.agg #[.slice (some ⟨ab, ao, none⟩) x.n x.c, .slice x.fa x.fn x.fc, .int .i64 x.y], .agg #[.slice (some ⟨bb, bo, none⟩) y.n y.c, .slice y.fa y.fn y.fc, .int .i64 y.y], .int .i64 how] W (RetR1 (q.1 ++ q2.1.drop 1, mulH how q.2 q2.2) W) from by
      have h1 := joined_any how hh W (some ⟨ab, ao, none⟩) x.n x.c x.fa x.fn x.fc x.y bb bo y.n y.c y.fa y.fn y.fc y.y q.1 q2.1 q.2.1 q2.2.1 (by rw [← haa]; exact HD1.out.gr (gw.trans k)) (by rw [← hbb]; exact d1.gr (gw.trans k)) hy0 ⟨by have := HD1.out.1; have := HQ.out.2.2; omega, by have := d1.1; have := HQ2.out.2.2.2; omega⟩ (by rw [hqx]; exact HQ.out.1) (by rw [hqy]; exact HQ2.out.1) (by rw [hqy]; exact HQ2.out.2.1)
      rw [hqx, hqy] at h1
      rw [hqx, hqy]
      exact h1)
     have CP := Lh (fun W (k : Gr wr W) ja jn jc (h1 : Rd3 W ja jn jc (q.1 ++ q2.1.drop 1)) (h2 : Old w W 3 jn ja) (h3 : (mulH how q.2 q2.2).1 = []) => show Calls Tryz.prog 116 #[u9, .agg #[.slice ja jn jc, .slice none 0 0, .int .i64 (mulH how q.2 q2.2).2], .int .i64 how] W (RetRt w u9 (plc (addH how) (plcs (addH how) (join1 (mulH how) q (V.take j)) T) (q.1 ++ q2.1.drop 1) (mulH how q.2 q2.2)) W) from
      place_any how hh w W u9 raw _ (Rw.mk ja jn jc none 0 0 (mulH how q.2 q2.2).2) (q.1 ++ q2.1.drop 1, mulH how q.2 q2.2) (HO.out.gr k) (HD.out.gr k) h1 h2 ⟨by rw [h3]; exact ⟨rfl, Nat.le_refl _, Nat.zero_le _, fun _ => rfl, .inl rfl⟩, .inl rfl, rfl⟩ HLj.out HYj.out HY2.out)
     generalize iv q.1 0 = u1 at *
     generalize iv q2.1 0 = u2 at *
     clear hy hq2 d1 d2 d3 hlj hbc hac gw hbb haa hqx hqy
     go_upto_region 21 with fail
     obtain ⟨wE, hwE⟩ : ∃ W9, wr.alloc (.cells #[.slice (some ⟨bb, bo, none⟩) y.n y.c, .slice y.fa y.fn y.fc, .int .i64 y.y] 81) = W9 := ⟨_, rfl⟩
     rw [hwE]
     have gE : Gr wr wE := hwE ▸ (Gr.refl wr).alloc _
     obtain ⟨e0, e1, e2⟩ : wE.cell? ⟨wr.heap.size, 0, none⟩ = some (.slice (some ⟨bb, bo, none⟩) y.n y.c) ∧ wE.cell? ⟨wr.heap.size, 1, none⟩ = some (.slice y.fa y.fn y.fc) ∧ wE.cell? ⟨wr.heap.size, 2, none⟩ = some (.int .i64 y.y) := by rw [← hwE]; exact row_box wr _ _ _ _ _ _ _ 81
     replace v1 := gE.cell v1
     replace v2 := gE.cell v2
     replace x0 := gE.cell x0
     replace x1 := gE.cell x1
     replace x2 := gE.cell x2
     refine Hg (fun w' => Gr wE w') 9 ?_
     have hS : Gr wE wE.drew := (Gr.refl wE).drew
     obtain ⟨wT, hw9⟩ : ∃ W9, wE.drew = W9 := ⟨_, rfl⟩
     rw [hw9] at hS ⊢
     clear hw9
     refine H5 0 1 2 3 4 (c4 x0 v1 e0 v2) hS ?_; refine H4 5 6 7 8 (c4 x0 v1 e0 v2) hS ?_
     refine Hd ?_
     have HGT := Lh (gE.trans hS)
     have e9 := w8.out
     replace e0 := hS.cell e0
     replace e1 := hS.cell e1
     replace e2 := hS.cell e2
     replace x0 := hS.cell x0
     replace x1 := hS.cell x1
     replace x2 := hS.cell x2
     clear hS hwE gE v1 v2 i1
     by_cases hk : u1 = u2
     ·have hbe : (u1 == u2) = true := by simpa using hk
      have HTj := Lh (HTj.out.trans (if_pos hk))
      clear hk
      go_wp2_with (first
       | (go_at_call 117; (refine (CJ.out _ HGT.out).mono ?_); rintro e w5 ⟨ja, jn, jc, rfl, h5, g5, r5, o5⟩; have HH5 := Lh h5; have G5 := Lh (HGT.out.trans g5); have R5 := Lh r5; have O5 := Lh (o5 w); clear h5 g5 r5 o5 CJ)
       | (go_at_call 116; (refine (CP.out _ G5.out _ _ _ R5.out O5.out HH5.out).mono ?_); rintro e w6 ⟨v6, raw6, rfl, h6, hd6, g6, n6⟩; have H6 := Lh h6; have HD6 := Lh hd6; have G6 := Lh g6; have N6 := Lh n6; clear h6 hd6 g6 n6 CP))
      go_roundw
      case rel => exact ⟨j + 1, Hlj.out, by first | rw [e9] | rfl, raw6, Lh H6.out, Lh (by rw [HTj.out]; exact HD6.out), Lh ((HBX.out.gr G5.out).grown G6.out Hne.out), Lh (fun e => by
       have hs := G5.out.size
       have hb := HBs.out
       rcases N6.out with h | h
       ·exact Hne.out (h ▸ e)
       have := h _ e
       omega), Lh (Nat.lt_of_lt_of_le HBs.out (Nat.le_trans G5.out.size G6.out.size))⟩
      case measure => first | (rw [e9]; exact fallX Hlj.out) | exact fallX Hlj.out
     have hbe : (u1 == u2) = false := by simpa using hk
     have HTj := Lh (HTj.out.trans (if_neg hk))
     clear hk
     go_wp2_with fail
     go_roundw
     case rel => exact ⟨j + 1, Hlj.out, by first | rw [e9] | rfl, raw, Lh (HO.out.gr HGT.out), Lh (by rw [HTj.out]; exact HD.out.gr HGT.out), Lh (HBX.out.gr HGT.out), Hne, Lh (Nat.lt_of_lt_of_le HBs.out HGT.out.size)⟩
     case measure => first | (rw [e9]; exact fallX Hlj.out) | exact fallX Hlj.out
    obtain rfl : j = n' := by omega
    have i1 : ¬ (j : Int) < (j : Int) := by omega
    have HTv := Lh (show V.take j = V from List.take_of_length_le (by have := HN.out.2.1; omega))
    rw [HTv.out] at HD
    obtain ⟨T2, hT2⟩ : ∃ T2, plcs (addH how) (join1 (mulH how) q V) T = T2 := ⟨_, rfl⟩
    rw [hT2] at HD
    have HLj := Lh (show T2.length ≤ 10000 by
     have h1 := plcs_len (addH how) (join1 (mulH how) q V) T
     have h2 := join1_len (mulH how) q V
     rw [hT2] at h1
     have := HL.out; have := HT.out.1
     omega)
    have HYj := Lh (show ∀ p ∈ T2, Yj p.2 from fun p hp => plcs_all (p := Yj) (addH how) (yj_add hh) _ T HT.out.2 (join1_all fun z hz => yj_mul hh q.2 z.2 HQ.out.1 (HYV.out z hz).1 (HYV.out z hz).2.1) p (by rw [hT2]; exact hp))
    have HBc := Lh (show BY = if okT (RgH how mul st) T2 = true then byR (RgH how mul st) (mulH how) V (U.drop (i + 1)) T2 else T2 by
     rw [← HB.out, HDr.out, byR_cons, HAdd.out, hT2])
    have CT := Lh (tooMuch_any (mul := mul) (st := st) how hh w wr u9 raw T2 HO.out HD.out HLj.out)
    clear hlj hT2
    cases hok : okT (RgH how mul st) T2 with
    | true =>
     rw [hok] at CT
     have HB2 := Lh (HBc.out.trans (if_pos hok)).symm
     have HL2 := Lh (okT_le hok).1
     clear hok
     go_wp2_with (go_at_call 85; (refine CT.out.mono ?_); rintro e w5 ⟨rfl, g5⟩; have G5 := Lh g5; clear g5 CT; have e9 := w9.out)
     go_roundw
     case rel => exact ⟨i + 1, Hlt.out, by first | rw [e9] | rfl, raw, T2, Lh (HO.out.gr G5.out), Lh (HD.out.gr G5.out), HB2, Lh ⟨HL2.out, HYj.out⟩⟩
     case measure => first | (rw [e9]; exact fallX Hlt.out) | exact fallX Hlt.out
    | false =>
     rw [hok] at CT
     have HB2 := Lh (HBc.out.trans (if_neg (by rw [hok]; decide))).symm
     clear hok
     go_wp2_with (go_at_call 85; (refine CT.out.mono ?_); rintro e w5 ⟨rfl, g5⟩; have G5 := Lh g5; clear g5 CT)
     go_ret
     exact ⟨_, raw, rfl, HO.out.gr G5.out, by have := HD.out.gr G5.out; rwa [HB2.out] at this⟩
  obtain rfl : i = n := by omega
  have i1 : ¬ (i : Int) < (i : Int) := by omega
  have HE := Lh (show T = BY by
   have h := HB.out
   rw [List.drop_eq_nil_of_le (by have := HN.out; omega)] at h
   exact h)
  clear hlt
  go_wp2_with fail
  go_ret
  exact ⟨_, raw, rfl, HO.out, by have := HD.out; rwa [HE.out] at this⟩
end Go.Proofs.YtehdemcfeoiecaaGreatDoor
