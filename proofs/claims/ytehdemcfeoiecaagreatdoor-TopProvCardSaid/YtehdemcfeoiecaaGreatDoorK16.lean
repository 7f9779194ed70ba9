import Derived.Test.YtehdemcfeoiecaaGreatDoorK12
import Derived.Test.YtehdemcfeoiecaaGreatDoorK13
set_option maxHeartbeats 64000000
set_option maxRecDepth 100000
namespace Go.Proofs.YtehdemcfeoiecaaGreatDoor
open Go.RowKit Go.Firn Go.Firn.Tb
theorem isTable1_any (x : Int) (w : World) : Calls Tryz.prog 90 #[.int .i64 x] w fun e w' => e = .returned (.bool (!okV x)) ∧ w' = w := by
 have C := Lh (fun w' => between_any (-999) x 999 w')
 go_enter Tryz.func90, Tryz.ntmps90
 go_wp2_with (go_at_call 56; (with_reducible refine (C.out _).mono ?_); rintro e w1 ⟨rfl, rfl⟩)
 go_ret
 exact ⟨rfl, rfl⟩
def RetI1 (q : Nat → Bool) (n : Nat) (w : World) (e : Ending) (w' : World) : Prop := (∃ z : Int, e = .returned (.int .i64 z) ∧ ((z = -1 ∧ ∀ i, i < n → q i = false) ∨ ∃ k : Nat, k < n ∧ z = k ∧ q k = true ∧ ∀ i, i < k → q i = false)) ∧ Gr w w'
theorem indexI_any (a : Option Addr) (n c : Nat) (L : List Int) (w : World) (h : Rd3 w a n c L) : Calls Tryz.prog 105 #[.slice a n c, .func (.func 90) #[] #[]] w (RetI1 (fun i => !okV (iv L i)) n w) := by
 have HR := Lh h.2.2.2.2
 have HN := Lh (show n ≤ 9223372036854775807 by have := h.2.1; have := h.2.2.1; omega)
 have hcf : ∀ args w, (callFunc 90 args).run Tryz.prog w = .ok (.enter 90 args) w := enters_of Tryz.func90 (by kernel_rfl) rfl
 clear h
 go_enter Tryz.func105, Tryz.ntmps105
 go_wp2_with fail
 go_loopw [8] (fun i wr => ∃ k : Nat, k ≤ n ∧ i = .int .i64 k ∧ Hid (∀ i, i < k → (!okV (iv L i)) = false) ∧ Gr w wr) (fun i _ => n - (intOf i).toNat)
 case atStart => exact ⟨0, Nat.zero_le _, rfl, Lh (fun i hi => absurd hi (Nat.not_lt_zero i)), Gr.refl _⟩
 case round =>
  obtain ⟨k, hk, rfl, Hi, hg⟩ := hrel
  by_cases hlt : k < n
  ·obtain ⟨b, o, rfl, hc⟩ := (HR.out.gr hg).at hlt
   have c1 := hc k hlt
   have i1 : (k : Int) < n := by omega
   have C := Lh (isTable1_any (iv L k) wr)
   obtain ⟨d, hd⟩ : ∃ d, d = (!okV (iv L k)) := ⟨_, rfl⟩
   rw [← hd] at C
   have HD := Lh hd
   have HG := Lh hg
   have HL := Lh hlt
   clear hlt hd hg hc
   generalize hx : iv L k = x at *
   cases d with
   | true =>
    go_wp2_with fail
    refine C.out.mono ?_
    rintro e w1 ⟨rfl, rfl⟩
    clear c1
    go_wp2_with fail
    go_ret
    exact ⟨⟨(k : Int), rfl, .inr ⟨k, HL.out, rfl, by show (!okV (iv L k)) = true; rw [hx]; exact HD.out.symm, Hi.out⟩⟩, HG.out⟩
   | false =>
    go_wp2_with fail
    refine C.out.mono ?_
    rintro e w1 ⟨rfl, rfl⟩
    clear c1
    have e3 : wrap64 ((k : Int) + 1) = ((k + 1 : Nat) : Int) := by rw [IntWalk.wrap64_in _ (by have := HL.out; have := HN.out; omega)]; omega
    go_wp2_with fail
    go_roundw
    case rel => exact ⟨k + 1, HL.out, by first | rw [e3] | rfl, Lh (fun i hi => by
     rcases Nat.lt_succ_iff_lt_or_eq.1 hi with h | rfl
     ·exact Hi.out i h
     rw [hx]; exact HD.out.symm), HG.out⟩
    case measure =>
     have := HL.out
     first | (rw [e3]; simp [intOf]; omega) | (simp [intOf]; omega)
  obtain rfl : k = n := by omega
  go_wp2_with fail
  go_ret
  exact ⟨⟨-1, rfl, .inl ⟨rfl, Hi.out⟩⟩, hg⟩
theorem any_of (q : Nat → Bool) (n : Nat) {z : Int} (h : (z = -1 ∧ ∀ i, i < n → q i = false) ∨ ∃ k : Nat, k < n ∧ z = k ∧ q k = true ∧ ∀ i, i < k → q i = false) : decide (0 ≤ z) = (List.range n).any q := by
 rcases h with ⟨rfl, hq⟩ | ⟨k, hk, rfl, hq, _⟩
 ·have : (List.range n).any q = false := by
   rw [List.any_eq_false]
   intro i hi
   rw [hq i (by simpa using hi)]; simp
  rw [this]; simp
 have : (List.range n).any q = true := List.any_eq_true.2 ⟨k, by simpa using hk, hq⟩
 rw [this]; simp
theorem hasI_any (a : Option Addr) (n c : Nat) (L : List Int) (w : World) (h : Rd3 w a n c L) : Calls Tryz.prog 75 #[.slice a n c, .func (.func 90) #[] #[]] w (RetB (!L.all okV) w) := by
 have C := Lh (indexI_any a n c L w h)
 have E := Lh (show (List.range n).any (fun i => !okV (iv L i)) = !L.all okV by
  rw [h.1, Bool.eq_iff_iff, List.any_eq_true, Bool.not_eq_true', List.all_eq_false]
  constructor
  ·rintro ⟨i, hi, hq⟩
   rw [List.mem_range] at hi
   exact ⟨iv L i, List.mem_of_getElem? (iv_get hi), by simpa using hq⟩
  rintro ⟨x, hx, hq⟩
  obtain ⟨i, hi, rfl⟩ := List.getElem_of_mem hx
  exact ⟨i, List.mem_range.2 hi, by rw [iv_some (List.getElem?_eq_getElem hi)]; simpa using hq⟩)
 clear h
 go_enter Tryz.func75, Tryz.ntmps75
 go_upto_region 1 with fail
 go_wp2_with (go_at_call 105; (with_reducible refine C.out.mono ?_); rintro e w1 ⟨⟨z, rfl, hz⟩, g1⟩; have HZ := Lh hz; have G1 := Lh g1; clear hz g1)
 go_ret
 exact ⟨by rw [← E.out, ← any_of _ n HZ.out]; simp, G1.out⟩
theorem box_is (w : World) (x : Int) (v : Value) (e : TypeId) : (w.alloc (.cells #[.int .i64 x, v] e)).cell? ⟨w.heap.size, 0, none⟩ = some (.int .i64 x) ∧ (w.alloc (.cells #[.int .i64 x, v] e)).cell? ⟨w.heap.size, 1, none⟩ = some v := by
 constructor <;> simp
theorem box_vv (w : World) (u v : Value) (e : TypeId) : (w.alloc (.cells #[u, v] e)).cell? ⟨w.heap.size, 0, none⟩ = some u ∧ (w.alloc (.cells #[u, v] e)).cell? ⟨w.heap.size, 1, none⟩ = some v := by
 constructor <;> simp
theorem isTable_any (W : Int) (a : Option Addr) (n c : Nat) (T : Tbl SL) (w : World) (hr : RdW w a n c T) (hz : SzW T) : Calls Tryz.prog 59 #[.agg #[.int .i64 W, .slice a n c]] w (RetB (vTab W T) w) := by
 obtain ⟨wB, hwB⟩ : ∃ wB, w.alloc (.cells #[.int .i64 W, .slice a n c] 36) = wB := ⟨_, rfl⟩
 have gB : Gr w wB := hwB ▸ (Gr.refl w).alloc _
 obtain ⟨yy0, yy1⟩ : wB.cell? ⟨w.heap.size, 0, none⟩ = some (.int .i64 W) ∧ wB.cell? ⟨w.heap.size, 1, none⟩ = some (.slice a n c) := by rw [← hwB]; exact box_is w W _ 36
 have HX := Lh (hr.gr gB)
 have HZ := Lh hz
 have GB := Lh gB
 have HN := Lh (show n = T.length ∧ n ≤ 9223372036854775807 from ⟨hr.1, by have := hr.2.1; have := hr.2.2.1; omega⟩)
 clear hr hz gB
 go_enter Tryz.func59, Tryz.ntmps59
 generalize hbx : w.heap.size = bx at *
 go_wp2_with fail
 go_loopw [8] (fun si wr => ∃ k : Nat, k ≤ n ∧ si = .int .i64 k ∧ Hid (vRowsK W T k = true) ∧ Hid (Gr wB wr)) (fun si _ => n - (intOf si).toNat)
 case atStart => exact ⟨0, Nat.zero_le _, rfl, Lh (vRowsK_zero W T), Lh (Gr.refl wB)⟩
 case round =>
  obtain ⟨k, hk, rfl, HK0, HG⟩ := hrel
  by_cases hlt : k < n
  ·have i1 : (k : Int) < (n : Int) := by omega
   obtain ⟨b, o, r, a1, n1, c1, a2, n2, c2, rfl, hx, d1, d2, xr, xp⟩ := (HX.out.gr HG.out).at hlt
   have hrz := HZ.out r (List.mem_of_getElem? hx)
   obtain ⟨wA, hwA⟩ : ∃ wA, wr.alloc (.cells #[.slice a1 n1 c1, .slice a2 n2 c2] 52) = wA := ⟨_, rfl⟩
   have gA : Gr wr wA := hwA ▸ (Gr.refl wr).alloc _
   have GA := Lh (HG.out.trans gA)
   obtain ⟨z0, z1⟩ : wA.cell? ⟨wr.heap.size, 0, none⟩ = some (.slice a1 n1 c1) ∧ wA.cell? ⟨wr.heap.size, 1, none⟩ = some (.slice a2 n2 c2) := by rw [← hwA]; exact box_vv wr _ _ 52
   have y0 := GA.out.cell yy0
   have y1 := GA.out.cell yy1
   have C75 := Lh (fun W1 (k : Gr wA W1) => hasI_any a1 n1 c1 r.1 W1 ((xr.gr gA).gr k))
   have C68 := Lh (fun W1 (k : Gr wA W1) => show Calls Tryz.prog 68 #[.slice a2 n2 c2] W1 (RetB (vL r.2) W1) from by
    have h1 := (xp.gr gA).gr k
    have := ValidSum_any a2 n2 c2 (sx r.2) (sy r.2) W1 (by have := h1.2.1; have := h1.2.2.1; omega) (fun i hi => by
     have := (hrz.2 _ (List.getElem_mem (show i < r.2.length by have := h1.1; omega))).1
     simp only [sx, List.getD_eq_getElem?_getD, List.getElem?_eq_getElem (show i < r.2.length by have := h1.1; omega), Option.getD_some, ByteArray.size, List.size_toArray]
     exact this) h1.2.2.2.2
    rwa [show vS (sx r.2) (sy r.2) n2 = vL r.2 by unfold vL; rw [← h1.1]] at this)
   have KS := Lh (show vRow W T k = true → vRowsK W T (k + 1) = true from fun h => by rw [vRowsK_succ, HK0.out, h]; rfl)
   have KF := Lh (show vRow W T k = false → vTab W T = false from fun h => by unfold vTab; rw [vRowsK_stop (by have := HN.out.1; omega) h]; rfl)
   have E := Lh (show vRow W T k = (decide (((r.1.length : Nat) : Int) = W) && r.1.all okV && vL r.2 && decide (r.2.length ≠ 0) && (decide (k = 0) || decide ((rw0 T (k - 1)).1 < r.1))) by unfold vRow; rw [rw0_get hx])
   have HL1 := Lh (And.intro xr.1 xp.1)
   have w3 := Lh (show wrap64 ((k : Int) + 1) = ((k + 1 : Nat) : Int) by rw [IntWalk.wrap64_in _ (by have := HN.out; omega)]; omega)
   have HPV := Lh (show k ≠ 0 → ∃ a3 n3 c3, wA.cell? ⟨b, o + (k - 1) * 2, none⟩ = some (.slice a3 n3 c3) ∧ Rd3 wA a3 n3 c3 (rw0 T (k - 1)).1 from fun hk0 => by
    obtain ⟨b', o', r', e1, m1, k1, e2, m2, k2, eb, hx', f1, _, g1, _⟩ := (HX.out.gr GA.out).at (k := k - 1) (by omega)
    simp only [Option.some.injEq, Addr.mk.injEq, and_true] at eb
    obtain ⟨rfl, rfl⟩ := eb
    rw [rw0_get hx']
    exact ⟨e1, m1, k1, f1, g1⟩)
   have HXR := Lh (xr.gr gA)
   clear hx xr xp hrz gA
   by_cases h1 : (n1 : Int) = W
   ·have h1c : ((n1 : Int) != W) = false := by simp; exact h1
    cases hv : r.1.all okV with
    | false =>
     rw [hv] at C75 E
     have F2 := Lh (KF.out (by rw [E.out]; simp))
     clear KS KF E C68 HPV HXR HL1 hv
     go_upto_region 4 with fail
     generalize wr.heap.size = b9 at *
     clear hwA d1 d2
     refine Hg (fun w' => Gr wA w') 40 ?_
     have hS : Gr wA wA.drew := (Gr.refl wA).drew
     refine H5 0 1 2 3 4 (c4 z0 z1 y0 y1) hS ?_; refine H4 5 6 7 8 (c4 z0 z1 y0 y1) hS ?_
     refine Hr 9 rfl (fun K hK => ?_)
     go_simp
     refine ⟨trivial, ?_⟩
     refine (callsIn_wide.2 (C75.out _ hS)).mono ?_
     rintro e wX ⟨rfl, gX⟩
     have hS : Gr wA wX := hS.trans gX
     refine hK.out _ _ hS ?_
     clear hK K gX
     refine H2 10 11 (c4 z0 z1 y0 y1) hS ?_; refine Hs4 12 13 14 15 hS ?_; refine H2 16 17 (c4 z0 z1 y0 y1) hS ?_; refine Hs4 18 19 20 21 hS ?_; refine H2 22 23 (c4 z0 z1 y0 y1) hS ?_; refine Hs8 24 25 26 27 28 29 30 31 hS ?_; refine Hs4 32 33 34 35 hS ?_; refine Hs2 36 37 hS ?_; refine Hs1 38 hS ?_; refine H1 39 (c4 z0 z1 y0 y1) hS ?_
     refine Hd ?_
     have GX := Lh (GA.out.trans hS)
     clear hS
     go_wp2_with fail
     go_ret
     rw [F2.out]
     exact ⟨rfl, GB.out.trans GX.out⟩
    | true =>
     rw [hv] at C75 E
     cases hs : vL r.2 with
     | false =>
      rw [hs] at C68 E
      have F2 := Lh (KF.out (by rw [E.out]; simp))
      clear KS KF E HPV HXR HL1 hv hs
      go_upto_region 4 with fail
      generalize wr.heap.size = b9 at *
      clear hwA d1 d2
      refine Hg (fun w' => Gr wA w') 40 ?_
      have hS : Gr wA wA.drew := (Gr.refl wA).drew
      refine H5 0 1 2 3 4 (c4 z0 z1 y0 y1) hS ?_; refine H4 5 6 7 8 (c4 z0 z1 y0 y1) hS ?_
      refine Hr 9 rfl (fun K hK => ?_)
      go_simp
      refine ⟨trivial, ?_⟩
      refine (callsIn_wide.2 (C75.out _ hS)).mono ?_
      rintro e wX ⟨rfl, gX⟩
      have hS : Gr wA wX := hS.trans gX
      refine hK.out _ _ hS ?_
      clear hK K gX
      refine H4 10 11 12 13 (c4 z0 z1 y0 y1) hS ?_
      refine Hr 14 rfl (fun K hK => ?_)
      go_simp
      refine ⟨trivial, ?_⟩
      refine (callsIn_wide.2 (C68.out _ hS)).mono ?_
      rintro e wX ⟨rfl, gX⟩
      have hS : Gr wA wX := hS.trans gX
      refine hK.out _ _ hS ?_
      clear hK K gX
      refine H3 15 16 17 (c4 z0 z1 y0 y1) hS ?_; refine Hs4 18 19 20 21 hS ?_; refine H2 22 23 (c4 z0 z1 y0 y1) hS ?_; refine Hs8 24 25 26 27 28 29 30 31 hS ?_; refine Hs4 32 33 34 35 hS ?_; refine Hs2 36 37 hS ?_; refine Hs1 38 hS ?_; refine H1 39 (c4 z0 z1 y0 y1) hS ?_
      refine Hd ?_
      have GX := Lh (GA.out.trans hS)
      clear hS
      go_wp2_with fail
      go_ret
      rw [F2.out]
      exact ⟨rfl, GB.out.trans GX.out⟩
     | true =>
      rw [hs] at C68 E
      by_cases h0 : n2 = 0
      ·have F2 := Lh (KF.out (by rw [E.out, show decide (r.2.length ≠ 0) = false by rw [← HL1.out.2, h0]; rfl]; simp))
       subst h0
       clear KS KF E HPV HXR HL1 hv hs
       go_upto_region 4 with fail
       generalize wr.heap.size = b9 at *
       clear hwA d1 d2
       refine Hg (fun w' => Gr wA w') 40 ?_
       have hS : Gr wA wA.drew := (Gr.refl wA).drew
       refine H5 0 1 2 3 4 (c4 z0 z1 y0 y1) hS ?_; refine H4 5 6 7 8 (c4 z0 z1 y0 y1) hS ?_
       refine Hr 9 rfl (fun K hK => ?_)
       go_simp
       refine ⟨trivial, ?_⟩
       refine (callsIn_wide.2 (C75.out _ hS)).mono ?_
       rintro e wX ⟨rfl, gX⟩
       have hS : Gr wA wX := hS.trans gX
       refine hK.out _ _ hS ?_
       clear hK K gX
       refine H4 10 11 12 13 (c4 z0 z1 y0 y1) hS ?_
       refine Hr 14 rfl (fun K hK => ?_)
       go_simp
       refine ⟨trivial, ?_⟩
       refine (callsIn_wide.2 (C68.out _ hS)).mono ?_
       rintro e wX ⟨rfl, gX⟩
       have hS : Gr wA wX := hS.trans gX
       refine hK.out _ _ hS ?_
       clear hK K gX
       refine H5 15 16 17 18 19 (c4 z0 z1 y0 y1) hS ?_; refine H4 20 21 22 23 (c4 z0 z1 y0 y1) hS ?_; refine Hs8 24 25 26 27 28 29 30 31 hS ?_; refine Hs4 32 33 34 35 hS ?_; refine Hs2 36 37 hS ?_; refine Hs1 38 hS ?_; refine H1 39 (c4 z0 z1 y0 y1) hS ?_
       refine Hd ?_
       have GX := Lh (GA.out.trans hS)
       clear hS
       go_wp2_with fail
       go_ret
       rw [F2.out]
       exact ⟨rfl, GB.out.trans GX.out⟩
      have h0' : ¬ (n2 : Int) = 0 := by omega
      have h0b : ((n2 : Int) == 0) = false := by simp; omega
      have E1 := Lh (show vRow W T k = (decide (k = 0) || decide ((rw0 T (k - 1)).1 < r.1)) by rw [E.out, ← HL1.out.1, ← HL1.out.2, decide_eq_true h1, decide_eq_true h0]; rfl)
      clear E
      by_cases hk0 : k = 0
      ·have F2 := Lh (KS.out (by rw [E1.out, decide_eq_true hk0]; rfl))
       have kd : decide (0 < k) = false := decide_eq_false (by omega)
       clear KS KF E1 HPV HXR HL1 hv hs hk0
       go_upto_region 4 with fail
       generalize wr.heap.size = b9 at *
       clear hwA d1 d2
       refine Hg (fun w' => Gr wA w') 40 ?_
       have hS : Gr wA wA.drew := (Gr.refl wA).drew
       refine H5 0 1 2 3 4 (c4 z0 z1 y0 y1) hS ?_; refine H4 5 6 7 8 (c4 z0 z1 y0 y1) hS ?_
       refine Hr 9 rfl (fun K hK => ?_)
       go_simp
       refine ⟨trivial, ?_⟩
       refine (callsIn_wide.2 (C75.out _ hS)).mono ?_
       rintro e wX ⟨rfl, gX⟩
       have hS : Gr wA wX := hS.trans gX
       refine hK.out _ _ hS ?_
       clear hK K gX
       refine H4 10 11 12 13 (c4 z0 z1 y0 y1) hS ?_
       refine Hr 14 rfl (fun K hK => ?_)
       go_simp
       refine ⟨trivial, ?_⟩
       refine (callsIn_wide.2 (C68.out _ hS)).mono ?_
       rintro e wX ⟨rfl, gX⟩
       have hS : Gr wA wX := hS.trans gX
       refine hK.out _ _ hS ?_
       clear hK K gX
       refine H12 15 16 17 18 19 20 21 22 23 24 25 26 (c4 z0 z1 y0 y1) hS ?_; refine Hs8 27 28 29 30 31 32 33 34 hS ?_; refine Hs2 35 36 hS ?_; refine Hs1 37 hS ?_; refine H2 38 39 (c4 z0 z1 y0 y1) hS ?_
       refine Hd ?_
       have GX := Lh (GA.out.trans hS)
       clear hS
       have e3 := w3.out
       go_wp2_with fail
       go_roundw
       case rel => exact ⟨k + 1, hlt, by first | rw [e3] | rfl, F2, GX⟩
       case measure => first | (rw [e3]; simp [intOf]; omega) | (simp [intOf]; omega)
      obtain ⟨a3, n3, c3, p0, xq⟩ := HPV.out hk0
      have C91 := Lh (fun W1 (kg : Gr wA W1) => Compare_any a1 a3 n1 n3 c1 c3 r.1 (rw0 T (k - 1)).1 W1 (HXR.out.gr kg) (xq.gr kg))
      have kd : decide (0 < k) = true := decide_eq_true (by omega)
      obtain ⟨j, hj⟩ : ∃ j, k = j + 1 := ⟨k - 1, by omega⟩
      have hkj : k - 1 = j := by omega
      have j1 : (j : Int) < (n : Int) := by omega
      have e1 : wrap64 ((k : Int) - 1) = (j : Int) := by rw [IntWalk.wrap64_in _ (by have := HN.out; omega)]; omega
      have e2 : IntKind.i64.wrap ((k : Int) - 1) = (j : Int) := by rw [IntWalk.i64_in _ (by have := HN.out; omega)]; omega
      rw [hkj] at p0 C91 E1
      by_cases hlo : (rw0 T j).1 < r.1
      ·have F2 := Lh (KS.out (by rw [E1.out, decide_eq_true hlo]; simp))
       rw [cmp_gt hlo] at C91
       clear KS KF E1 HPV HXR HL1 hv hs xq hj hkj hk0 hlo
       go_upto_region 4 with fail
       generalize wr.heap.size = b9 at *
       clear hwA d1 d2
       refine Hg (fun w' => Gr wA w') 40 ?_
       have hS : Gr wA wA.drew := (Gr.refl wA).drew
       refine H5 0 1 2 3 4 (c4 z0 z1 y0 y1) hS ?_; refine H4 5 6 7 8 (c4 z0 z1 y0 y1) hS ?_
       refine Hr 9 rfl (fun K hK => ?_)
       go_simp
       refine ⟨trivial, ?_⟩
       refine (callsIn_wide.2 (C75.out _ hS)).mono ?_
       rintro e wX ⟨rfl, gX⟩
       have hS : Gr wA wX := hS.trans gX
       refine hK.out _ _ hS ?_
       clear hK K gX
       refine H4 10 11 12 13 (c4 z0 z1 y0 y1) hS ?_
       refine Hr 14 rfl (fun K hK => ?_)
       go_simp
       refine ⟨trivial, ?_⟩
       refine (callsIn_wide.2 (C68.out _ hS)).mono ?_
       rintro e wX ⟨rfl, gX⟩
       have hS : Gr wA wX := hS.trans gX
       refine hK.out _ _ hS ?_
       clear hK K gX
       refine H5 15 16 17 18 19 (c4 z0 z1 y0 y1) hS ?_; refine H4 20 21 22 23 (c4 z0 z1 y0 y1) hS ?_; refine H12 24 25 26 27 28 29 30 31 32 33 34 35 (c5 z0 z1 y0 y1 p0) hS ?_
       refine Hr 36 rfl (fun K hK => ?_)
       go_simp
       refine ⟨trivial, ?_⟩
       refine (callsIn_wide.2 (C91.out _ hS)).mono ?_
       rintro e wX ⟨rfl, gX⟩
       have hS : Gr wA wX := hS.trans gX
       refine hK.out _ _ hS ?_
       clear hK K gX
       refine H3 37 38 39 (c4 z0 z1 y0 y1) hS ?_
       refine Hd ?_
       have GX := Lh (GA.out.trans hS)
       clear hS
       have e3 := w3.out
       go_wp2_with fail
       go_roundw
       case rel => exact ⟨k + 1, hlt, by first | rw [e3] | rfl, F2, GX⟩
       case measure => first | (rw [e3]; simp [intOf]; omega) | (simp [intOf]; omega)
      have F2 := Lh (KF.out (by rw [E1.out, decide_eq_false hlo, decide_eq_false hk0]; rfl))
      obtain ⟨z, hz, hz0⟩ : ∃ z : Int, cmpI r.1 (rw0 T j).1 = z ∧ z ≤ 0 := ⟨_, rfl, by
       rcases Classical.em (r.1 < (rw0 T j).1) with h | h
       ·rw [cmp_lt h]; decide
       have : r.1 = (rw0 T j).1 := List.le_antisymm (List.not_lt.1 hlo) (List.not_lt.1 h)
       rw [← this, cmp_eq]; decide⟩
      rw [hz] at C91
      clear KS KF E1 HPV HXR HL1 hv hs xq hj hkj hk0 hlo hz
      go_upto_region 4 with fail
      generalize wr.heap.size = b9 at *
      clear hwA d1 d2
      refine Hg (fun w' => Gr wA w') 40 ?_
      have hS : Gr wA wA.drew := (Gr.refl wA).drew
      refine H5 0 1 2 3 4 (c4 z0 z1 y0 y1) hS ?_; refine H4 5 6 7 8 (c4 z0 z1 y0 y1) hS ?_
      refine Hr 9 rfl (fun K hK => ?_)
      go_simp
      refine ⟨trivial, ?_⟩
      refine (callsIn_wide.2 (C75.out _ hS)).mono ?_
      rintro e wX ⟨rfl, gX⟩
      have hS : Gr wA wX := hS.trans gX
      refine hK.out _ _ hS ?_
      clear hK K gX
      refine H4 10 11 12 13 (c4 z0 z1 y0 y1) hS ?_
      refine Hr 14 rfl (fun K hK => ?_)
      go_simp
      refine ⟨trivial, ?_⟩
      refine (callsIn_wide.2 (C68.out _ hS)).mono ?_
      rintro e wX ⟨rfl, gX⟩
      have hS : Gr wA wX := hS.trans gX
      refine hK.out _ _ hS ?_
      clear hK K gX
      refine H5 15 16 17 18 19 (c4 z0 z1 y0 y1) hS ?_; refine H4 20 21 22 23 (c4 z0 z1 y0 y1) hS ?_; refine H12 24 25 26 27 28 29 30 31 32 33 34 35 (c5 z0 z1 y0 y1 p0) hS ?_
      refine Hr 36 rfl (fun K hK => ?_)
      go_simp
      refine ⟨trivial, ?_⟩
      refine (callsIn_wide.2 (C91.out _ hS)).mono ?_
      rintro e wX ⟨rfl, gX⟩
      have hS : Gr wA wX := hS.trans gX
      refine hK.out _ _ hS ?_
      clear hK K gX
      refine H3 37 38 39 (c4 z0 z1 y0 y1) hS ?_
      refine Hd ?_
      have GX := Lh (GA.out.trans hS)
      clear hS
      go_wp2_with fail
      go_ret
      rw [F2.out]
      exact ⟨rfl, GB.out.trans GX.out⟩
   have F2 := Lh (KF.out (by rw [E.out, ← HL1.out.1, decide_eq_false h1]; rfl))
   have h1c : ((n1 : Int) != W) = true := by simp; exact h1
   clear KS KF E C75 C68 HPV HXR HL1
   go_upto_region 4 with fail
   generalize wr.heap.size = b9 at *
   clear hwA d1 d2
   refine Hg (fun w' => Gr wA w') 40 ?_
   have hS : Gr wA wA.drew := (Gr.refl wA).drew
   refine H5 0 1 2 3 4 (c4 z0 z1 y0 y1) hS ?_; refine H2 5 6 (c4 z0 z1 y0 y1) hS ?_; refine Hs2 7 8 hS ?_; refine Hs1 9 hS ?_; refine H2 10 11 (c4 z0 z1 y0 y1) hS ?_; refine Hs4 12 13 14 15 hS ?_; refine H2 16 17 (c4 z0 z1 y0 y1) hS ?_; refine Hs4 18 19 20 21 hS ?_; refine H2 22 23 (c4 z0 z1 y0 y1) hS ?_; refine Hs8 24 25 26 27 28 29 30 31 hS ?_; refine Hs4 32 33 34 35 hS ?_; refine Hs2 36 37 hS ?_; refine Hs1 38 hS ?_; refine H1 39 (c4 z0 z1 y0 y1) hS ?_
   refine Hd ?_
   have GX := Lh (GA.out.trans hS)
   clear hS
   go_wp2_with fail
   go_ret
   rw [F2.out]
   exact ⟨rfl, GB.out.trans GX.out⟩
  obtain rfl : k = n := by omega
  have F2 := Lh (show vTab W T = (btw 1 W 4 && decide (T.length ≤ 60)) by unfold vTab; rw [← HN.out.1, HK0.out]; rfl)
  have y0 := HG.out.cell yy0
  have y1 := HG.out.cell yy1
  have CB := Lh (fun W1 => between_any 1 W 4 W1)
  have HN1 := HN.out.1
  cases hb : btw 1 W 4 with
  | true =>
   rw [hb] at CB F2
   clear hb hlt
   go_wp2_with (go_at_call 56; (with_reducible refine (CB.out _).mono ?_); rintro e w1 ⟨rfl, rfl⟩)
   go_ret
   rw [F2.out]
   exact ⟨by rw [← HN1]; simp; omega, GB.out.trans HG.out⟩
  | false =>
   rw [hb] at CB F2
   clear hb hlt
   go_wp2_with (go_at_call 56; (with_reducible refine (CB.out _).mono ?_); rintro e w1 ⟨rfl, rfl⟩)
   go_ret
   rw [F2.out]
   exact ⟨rfl, GB.out.trans HG.out⟩
def tb0 (Ts : List (Int × Tbl SL)) (i : Nat) : Int × Tbl SL := Ts.getD i (0, [])
theorem tb0_get {Ts : List (Int × Tbl SL)} {i : Nat} {x : Int × Tbl SL} (h : Ts[i]? = some x) : tb0 Ts i = x := by
 unfold tb0
 rw [List.getD_eq_getElem?_getD, h]
 rfl
theorem valid1_any (W : Int) (a : Option Addr) (n c : Nat) (T : Tbl SL) (w : World) (hr : RdW w a n c T) (hz : SzW T) : Calls Tryz.prog 58 #[.agg #[.int .i64 W, .slice a n c]] w (RetB (!vTab W T) w) := by
 obtain ⟨wB, hwB⟩ : ∃ wB, w.alloc (.cells #[.int .i64 W, .slice a n c] 36) = wB := ⟨_, rfl⟩
 have gB : Gr w wB := hwB ▸ (Gr.refl w).alloc _
 obtain ⟨y0, y1⟩ : wB.cell? ⟨w.heap.size, 0, none⟩ = some (.int .i64 W) ∧ wB.cell? ⟨w.heap.size, 1, none⟩ = some (.slice a n c) := by rw [← hwB]; exact box_is w W _ 36
 have C := Lh (isTable_any W a n c T wB (hr.gr gB) hz)
 have GB := Lh gB
 clear hr hz gB
 go_enter Tryz.func58, Tryz.ntmps58
 go_wp2_with fail
 refine C.out.mono ?_
 rintro e w1 ⟨rfl, g1⟩
 have G1 := Lh g1
 clear g1
 go_wp2_with fail
 go_ret
 exact ⟨rfl, GB.out.trans G1.out⟩
theorem indexT_any (a : Option Addr) (n c : Nat) (Ts : List (Int × Tbl SL)) (w : World) (h : RdWs w a n c Ts) (hz : SzWs Ts) : Calls Tryz.prog 89 #[.slice a n c, .func (.func 58) #[] #[]] w (RetI1 (fun i => !vTab (tb0 Ts i).1 (tb0 Ts i).2) n w) := by
 have HX := Lh h
 have HZ := Lh hz
 have HN := Lh (show n ≤ 9223372036854775807 by have := h.2.1; have := h.2.2.1; omega)
 have hcf : ∀ args w, (callFunc 58 args).run Tryz.prog w = .ok (.enter 58 args) w := enters_of Tryz.func58 (by kernel_rfl) rfl
 clear h hz
 go_enter Tryz.func89, Tryz.ntmps89
 go_wp2_with fail
 go_loopw [8] (fun i wr => ∃ k : Nat, k ≤ n ∧ i = .int .i64 k ∧ Hid (∀ i, i < k → (!vTab (tb0 Ts i).1 (tb0 Ts i).2) = false) ∧ Gr w wr) (fun i _ => n - (intOf i).toNat)
 case atStart => exact ⟨0, Nat.zero_le _, rfl, Lh (fun i hi => absurd hi (Nat.not_lt_zero i)), Gr.refl _⟩
 case round =>
  obtain ⟨k, hk, rfl, Hi, hg⟩ := hrel
  by_cases hlt : k < n
  ·obtain ⟨b, o, r, a1, n1, c1, rfl, hx, k1, k2, hW⟩ := (HX.out.gr hg).at hlt
   have i1 : (k : Int) < n := by omega
   have hrz := (HZ.out r (List.mem_of_getElem? hx)).2
   have C := Lh (valid1_any r.1 a1 n1 c1 r.2 wr hW hrz)
   obtain ⟨d, hd⟩ : ∃ d, d = (!vTab r.1 r.2) := ⟨_, rfl⟩
   rw [← hd] at C
   have HD := Lh (show (!vTab (tb0 Ts k).1 (tb0 Ts k).2) = d by rw [tb0_get hx, hd])
   have HG := Lh hg
   have HL := Lh hlt
   clear hlt hd hg hx hW hrz
   obtain ⟨rW, rT⟩ := r
   simp only at C k1
   cases d with
   | true =>
    go_wp2_with fail
    refine C.out.mono ?_
    rintro e w1 ⟨rfl, g1⟩
    clear k1 k2
    go_wp2_with fail
    go_ret
    exact ⟨⟨(k : Int), rfl, .inr ⟨k, HL.out, rfl, HD.out, Hi.out⟩⟩, HG.out.trans g1⟩
   | false =>
    go_wp2_with fail
    refine C.out.mono ?_
    rintro e w1 ⟨rfl, g1⟩
    clear k1 k2
    have e3 : wrap64 ((k : Int) + 1) = ((k + 1 : Nat) : Int) := by rw [IntWalk.wrap64_in _ (by have := HL.out; have := HN.out; omega)]; omega
    have G1 := Lh g1
    clear g1
    go_wp2_with fail
    go_roundw
    case rel => exact ⟨k + 1, HL.out, by first | rw [e3] | rfl, Lh (fun i hi => by
     rcases Nat.lt_succ_iff_lt_or_eq.1 hi with h | rfl
     ·exact Hi.out i h
     exact HD.out), HG.out.trans G1.out⟩
    case measure =>
     have := HL.out
     first | (rw [e3]; simp [intOf]; omega) | (simp [intOf]; omega)
  obtain rfl : k = n := by omega
  go_wp2_with fail
  go_ret
  exact ⟨⟨-1, rfl, .inl ⟨rfl, Hi.out⟩⟩, hg⟩
theorem hasT_any (a : Option Addr) (n c : Nat) (Ts : List (Int × Tbl SL)) (w : World) (h : RdWs w a n c Ts) (hz : SzWs Ts) : Calls Tryz.prog 57 #[.slice a n c, .func (.func 58) #[] #[]] w (RetB (!Ts.all fun x => vTab x.1 x.2) w) := by
 have C := Lh (indexT_any a n c Ts w h hz)
 have E := Lh (show (List.range n).any (fun i => !vTab (tb0 Ts i).1 (tb0 Ts i).2) = !Ts.all fun x => vTab x.1 x.2 by
  rw [h.1, Bool.eq_iff_iff, List.any_eq_true, Bool.not_eq_true', List.all_eq_false]
  constructor
  ·rintro ⟨i, hi, hq⟩
   rw [List.mem_range] at hi
   refine ⟨tb0 Ts i, ?_, by simpa using hq⟩
   rw [tb0_get (List.getElem?_eq_getElem hi)]
   exact List.getElem_mem hi
  rintro ⟨x, hx, hq⟩
  obtain ⟨i, hi, rfl⟩ := List.getElem_of_mem hx
  exact ⟨i, List.mem_range.2 hi, by rw [tb0_get (List.getElem?_eq_getElem hi)]; simpa using hq⟩)
 clear h
 go_enter Tryz.func57, Tryz.ntmps57
 go_upto_region 1 with fail
 go_wp2_with (go_at_call 89; (with_reducible refine C.out.mono ?_); rintro e w1 ⟨⟨z, rfl, hz⟩, g1⟩; have HZ := Lh hz; have G1 := Lh g1; clear hz g1)
 go_ret
 exact ⟨by rw [← E.out, ← any_of _ n HZ.out]; simp, G1.out⟩
theorem Valid_any (a : Option Addr) (n c : Nat) (Ts : List (Int × Tbl SL)) (w : World) (h : RdWs w a n c Ts) (hz : SzWs Ts) : Calls Tryz.prog 22 #[.slice a n c] w (RetB (vTabs Ts) w) := by
 have C := Lh (fun W (k : Gr w W) => hasT_any a n c Ts W (h.gr k) hz)
 have E := Lh (show vTabs Ts = (btw 1 n 4 && Ts.all fun x => vTab x.1 x.2) by
  unfold vTabs btw
  rw [h.1, Bool.eq_iff_iff]
  simp only [Bool.and_eq_true, decide_eq_true_eq]
  constructor
  ·rintro ⟨⟨h1, h2⟩, h3⟩
   exact ⟨⟨by omega, by omega⟩, h1⟩
  rintro ⟨⟨h1, h2⟩, h3⟩
  exact ⟨⟨h3, by omega⟩, by omega⟩)
 have CB := Lh (fun W1 => between_any 1 n 4 W1)
 clear h hz
 cases hb : btw 1 n 4 with
 | true =>
  rw [hb] at CB E
  clear hb
  go_enter Tryz.func22, Tryz.ntmps22
  go_wp2_with (first
   | (go_at_call 56; (with_reducible refine (CB.out _).mono ?_); rintro e w1 ⟨rfl, rfl⟩)
   | (go_at_call 57; (refine (C.out _ (Gr.refl _)).mono ?_); rintro e w1 ⟨rfl, g1⟩; have G1 := Lh g1; clear g1))
  go_ret
  rw [E.out]
  exact ⟨by simp, G1.out⟩
 | false =>
  rw [hb] at CB E
  clear hb C
  go_enter Tryz.func22, Tryz.ntmps22
  go_wp2_with (go_at_call 56; (with_reducible refine (CB.out _).mono ?_); rintro e w1 ⟨rfl, rfl⟩)
  go_ret
  rw [E.out]
  exact ⟨rfl, Gr.refl _⟩
theorem okV_iff {x : Int} : okV x = true ↔ -999 ≤ x ∧ x ≤ 999 := by
 unfold okV btw
 rw [Bool.and_eq_true, decide_eq_true_eq, decide_eq_true_eq]
theorem validTable_any (W : Int) (a : Option Addr) (n c : Nat) (T : Tbl SL) (w : World) (hr : RdW w a n c T) (hz : SzW T) : Calls Tryz.prog 60 #[.agg #[.int .i64 W, .slice a n c]] w (RetB (vTab W T) w) := by
 obtain ⟨wB, hwB⟩ : ∃ wB, w.alloc (.cells #[.int .i64 W, .slice a n c] 36) = wB := ⟨_, rfl⟩
 have gB : Gr w wB := hwB ▸ (Gr.refl w).alloc _
 obtain ⟨yy0, yy1⟩ : wB.cell? ⟨w.heap.size, 0, none⟩ = some (.int .i64 W) ∧ wB.cell? ⟨w.heap.size, 1, none⟩ = some (.slice a n c) := by rw [← hwB]; exact box_is w W _ 36
 have HX := Lh (hr.gr gB)
 have HZ := Lh hz
 have GB := Lh gB
 have HN := Lh (show n = T.length ∧ n ≤ 9223372036854775807 from ⟨hr.1, by have := hr.2.1; have := hr.2.2.1; omega⟩)
 clear hr hz gB
 by_cases hw1 : W < 1
 ·have F2 := Lh (show vTab W T = false by unfold vTab btw; rw [decide_eq_false (show ¬ 1 ≤ W by omega)]; simp)
  have k1 : decide (W < 1) = true := decide_eq_true hw1
  go_enter Tryz.func60, Tryz.ntmps60
  generalize hbx : w.heap.size = bx at *
  go_wp2_with fail
  go_ret
  rw [F2.out]
  exact ⟨rfl, GB.out⟩
 have k1 : decide (W < 1) = false := decide_eq_false hw1
 by_cases hw4 : 4 < W
 ·have F2 := Lh (show vTab W T = false by unfold vTab btw; rw [decide_eq_false (show ¬ W ≤ 4 by omega)]; simp)
  have k2 : decide (4 < W) = true := decide_eq_true hw4
  go_enter Tryz.func60, Tryz.ntmps60
  generalize hbx : w.heap.size = bx at *
  go_wp2_with fail
  go_ret
  rw [F2.out]
  exact ⟨rfl, GB.out⟩
 have k2 : decide (4 < W) = false := decide_eq_false hw4
 by_cases hn60 : 60 < n
 ·have F2 := Lh (show vTab W T = false by unfold vTab; rw [decide_eq_false (show ¬ T.length ≤ 60 by have := HN.out.1; omega)]; simp)
  have k3 : decide (60 < n) = true := decide_eq_true hn60
  have k4 : decide (60 < (n : Int)) = true := decide_eq_true (by omega)
  go_enter Tryz.func60, Tryz.ntmps60
  generalize hbx : w.heap.size = bx at *
  go_wp2_with fail
  go_ret
  rw [F2.out]
  exact ⟨rfl, GB.out⟩
 have HTop := Lh (show btw 1 W 4 = true ∧ decide (T.length ≤ 60) = true from ⟨by unfold btw; rw [decide_eq_true (show 1 ≤ W by omega), decide_eq_true (show W ≤ 4 by omega)]; rfl, decide_eq_true (by have := HN.out.1; omega)⟩)
 have k3 : decide (60 < n) = false := decide_eq_false hn60
 have k4 : decide (60 < (n : Int)) = false := decide_eq_false (by omega)
 clear hw1 hw4 hn60
 go_enter Tryz.func60, Tryz.ntmps60
 generalize hbx : w.heap.size = bx at *
 go_wp2_with fail
 clear k1 k2 k3 k4
 go_loopw [24] (fun si wr => ∃ k : Nat, k ≤ n ∧ si = .int .i64 k ∧ Hid (vRowsK W T k = true) ∧ Hid (Gr wB wr)) (fun si _ => n - (intOf si).toNat)
 case atStart => exact ⟨0, Nat.zero_le _, rfl, Lh (vRowsK_zero W T), Lh (Gr.refl wB)⟩
 case round =>
  obtain ⟨k, hk, rfl, HK0, HG⟩ := hrel
  by_cases hlt : k < n
  ·have i1 : (k : Int) < (n : Int) := by omega
   obtain ⟨b, o, r, a1, n1, c1, a2, n2, c2, rfl, hx, d1, d2, xr, xp⟩ := (HX.out.gr HG.out).at hlt
   have hrz := HZ.out r (List.mem_of_getElem? hx)
   obtain ⟨wA, hwA⟩ : ∃ wA, wr.alloc (.cells #[.slice a1 n1 c1, .slice a2 n2 c2] 52) = wA := ⟨_, rfl⟩
   have gA : Gr wr wA := hwA ▸ (Gr.refl wr).alloc _
   have GA := Lh (HG.out.trans gA)
   obtain ⟨z0, z1⟩ : wA.cell? ⟨wr.heap.size, 0, none⟩ = some (.slice a1 n1 c1) ∧ wA.cell? ⟨wr.heap.size, 1, none⟩ = some (.slice a2 n2 c2) := by rw [← hwA]; exact box_vv wr _ _ 52
   have y0 := GA.out.cell yy0
   have y1 := GA.out.cell yy1
   have C70 := Lh (fun W1 (k : Gr wA W1) => show Calls Tryz.prog 70 #[.slice a2 n2 c2] W1 (RetB (vL r.2) W1) from by
    have h1 := (xp.gr gA).gr k
    have := refValidSum_any a2 n2 c2 (sx r.2) (sy r.2) W1 (by have := h1.2.1; have := h1.2.2.1; omega) (fun i hi => by
     have := (hrz.2 _ (List.getElem_mem (show i < r.2.length by have := h1.1; omega))).1
     simp only [sx, List.getD_eq_getElem?_getD, List.getElem?_eq_getElem (show i < r.2.length by have := h1.1; omega), Option.getD_some, ByteArray.size, List.size_toArray]
     exact this) h1.2.2.2.2
    rwa [show vS (sx r.2) (sy r.2) n2 = vL r.2 by unfold vL; rw [← h1.1]] at this)
   have KS := Lh (show vRow W T k = true → vRowsK W T (k + 1) = true from fun h => by rw [vRowsK_succ, HK0.out, h]; rfl)
   have KF := Lh (show vRow W T k = false → vTab W T = false from fun h => by unfold vTab; rw [vRowsK_stop (by have := HN.out.1; omega) h]; rfl)
   have E := Lh (show vRow W T k = (decide (((r.1.length : Nat) : Int) = W) && r.1.all okV && vL r.2 && decide (r.2.length ≠ 0) && (decide (k = 0) || decide ((rw0 T (k - 1)).1 < r.1))) by unfold vRow; rw [rw0_get hx])
   have HL1 := Lh (And.intro xr.1 xp.1)
   have KV := Lh (show (∃ j, j < n1 ∧ ¬ okV (iv r.1 j) = true) → vTab W T = false from fun ⟨j, hj, hv⟩ => by
    refine KF.out ?_
    rw [E.out]
    have : r.1.all okV = false := by
     rw [List.all_eq_false]
     exact ⟨iv r.1 j, List.mem_of_getElem? (iv_get (by have := HL1.out.1; omega)), hv⟩
    rw [this]; simp)
   have KA := Lh (show (∀ j, j < n1 → okV (iv r.1 j) = true) → r.1.all okV = true from fun h => by
    rw [List.all_eq_true]
    intro x hx
    obtain ⟨i, hi, rfl⟩ := List.getElem_of_mem hx
    have := h i (by have := HL1.out.1; omega)
    rwa [iv_some (List.getElem?_eq_getElem hi)] at this)
   have w3 := Lh (show wrap64 ((k : Int) + 1) = ((k + 1 : Nat) : Int) by rw [IntWalk.wrap64_in _ (by have := HN.out; omega)]; omega)
   have HPV := Lh (show k ≠ 0 → ∃ a3 n3 c3, wA.cell? ⟨b, o + (k - 1) * 2, none⟩ = some (.slice a3 n3 c3) ∧ Rd3 wA a3 n3 c3 (rw0 T (k - 1)).1 from fun hk0 => by
    obtain ⟨b', o', r', e1, m1, k1, e2, m2, k2, eb, hx', f1, _, g1, _⟩ := (HX.out.gr GA.out).at (k := k - 1) (by omega)
    simp only [Option.some.injEq, Addr.mk.injEq, and_true] at eb
    obtain ⟨rfl, rfl⟩ := eb
    rw [rw0_get hx']
    exact ⟨e1, m1, k1, f1, g1⟩)
   have HXR := Lh (xr.gr gA)
   clear hx xr xp hrz gA
   by_cases h1 : (n1 : Int) = W
   ·have h1c : ((n1 : Int) != W) = false := by simp; exact h1
    have h1l : decide (((r.1.length : Nat) : Int) = W) = true := decide_eq_true (by rw [← HL1.out.1]; exact h1)
    cases hs : vL r.2 with
    | false =>
     rw [hs] at C70 E
     have F2 := Lh (KF.out (by rw [E.out]; simp))
     clear KS KF E HPV HXR HL1 hs KV KA h1l
     go_upto_region 6 with fail
     generalize wr.heap.size = b9 at *
     clear hwA d1 d2
     refine Hg (fun w' => Gr wA w') 35 ?_
     have hS : Gr wA wA.drew := (Gr.refl wA).drew
     refine H5 0 1 2 3 4 (c4 z0 z1 y0 y1) hS ?_; refine H4 5 6 7 8 (c4 z0 z1 y0 y1) hS ?_
     refine Hr 9 rfl (fun K hK => ?_)
     go_simp
     refine ⟨trivial, ?_⟩
     refine (callsIn_wide.2 (C70.out _ hS)).mono ?_
     rintro e wX ⟨rfl, gX⟩
     have hS : Gr wA wX := hS.trans gX
     refine hK.out _ _ hS ?_
     clear hK K gX
     refine H3 10 11 12 (c4 z0 z1 y0 y1) hS ?_; refine Hs4 13 14 15 16 hS ?_; refine H2 17 18 (c4 z0 z1 y0 y1) hS ?_; refine Hs8 19 20 21 22 23 24 25 26 hS ?_; refine Hs4 27 28 29 30 hS ?_; refine Hs2 31 32 hS ?_; refine Hs1 33 hS ?_; refine H1 34 (c4 z0 z1 y0 y1) hS ?_
     refine Hd ?_
     have GX := Lh (GA.out.trans hS)
     clear hS
     go_wp2_with fail
     go_ret
     rw [F2.out]
     exact ⟨rfl, GB.out.trans GX.out⟩
    | true =>
     rw [hs] at C70 E
     by_cases h0 : n2 = 0
     ·have F2 := Lh (KF.out (by rw [E.out, show decide (r.2.length ≠ 0) = false by rw [← HL1.out.2, h0]; rfl]; simp))
      subst h0
      clear KS KF E HPV HXR HL1 hs KV KA h1l
      go_upto_region 6 with fail
      generalize wr.heap.size = b9 at *
      clear hwA d1 d2
      refine Hg (fun w' => Gr wA w') 35 ?_
      have hS : Gr wA wA.drew := (Gr.refl wA).drew
      refine H5 0 1 2 3 4 (c4 z0 z1 y0 y1) hS ?_; refine H4 5 6 7 8 (c4 z0 z1 y0 y1) hS ?_
      refine Hr 9 rfl (fun K hK => ?_)
      go_simp
      refine ⟨trivial, ?_⟩
      refine (callsIn_wide.2 (C70.out _ hS)).mono ?_
      rintro e wX ⟨rfl, gX⟩
      have hS : Gr wA wX := hS.trans gX
      refine hK.out _ _ hS ?_
      clear hK K gX
      refine H5 10 11 12 13 14 (c4 z0 z1 y0 y1) hS ?_; refine H4 15 16 17 18 (c4 z0 z1 y0 y1) hS ?_; refine Hs8 19 20 21 22 23 24 25 26 hS ?_; refine Hs4 27 28 29 30 hS ?_; refine Hs2 31 32 hS ?_; refine Hs1 33 hS ?_; refine H1 34 (c4 z0 z1 y0 y1) hS ?_
      refine Hd ?_
      have GX := Lh (GA.out.trans hS)
      clear hS
      go_wp2_with fail
      go_ret
      rw [F2.out]
      exact ⟨rfl, GB.out.trans GX.out⟩
     have h0' : ¬ (n2 : Int) = 0 := by omega
     have h0b : ((n2 : Int) == 0) = false := by simp; omega
     have E1 := Lh (show vRow W T k = (r.1.all okV && (decide (k = 0) || decide ((rw0 T (k - 1)).1 < r.1))) by rw [E.out, h1l, ← HL1.out.2, decide_eq_true h0]; simp)
     clear E h1l
     by_cases hk0 : k = 0
     ·have F2 := Lh (show (∀ j, j < n1 → okV (iv r.1 j) = true) → vRowsK W T (k + 1) = true from fun h => KS.out (by rw [E1.out, KA.out h, decide_eq_true hk0]; rfl))
      have kd : decide (0 < k) = false := decide_eq_false (by omega)
      clear KS KF E1 HPV HL1 hs hk0 KA
      go_upto_region 6 with fail
      generalize wr.heap.size = b9 at *
      clear hwA d1 d2
      refine Hg (fun w' => Gr wA w') 35 ?_
      have hS : Gr wA wA.drew := (Gr.refl wA).drew
      refine H5 0 1 2 3 4 (c4 z0 z1 y0 y1) hS ?_; refine H4 5 6 7 8 (c4 z0 z1 y0 y1) hS ?_
      refine Hr 9 rfl (fun K hK => ?_)
      go_simp
      refine ⟨trivial, ?_⟩
      refine (callsIn_wide.2 (C70.out _ hS)).mono ?_
      rintro e wX ⟨rfl, gX⟩
      have hS : Gr wA wX := hS.trans gX
      refine hK.out _ _ hS ?_
      clear hK K gX
      refine H12 10 11 12 13 14 15 16 17 18 19 20 21 (c4 z0 z1 y0 y1) hS ?_; refine Hs8 22 23 24 25 26 27 28 29 hS ?_; refine Hs2 30 31 hS ?_; refine Hs1 32 hS ?_; refine H2 33 34 (c4 z0 z1 y0 y1) hS ?_
      refine Hd ?_
      have GX := Lh (GA.out.trans hS)
      have GXA := Lh hS
      clear kd
      obtain ⟨wC, hwC⟩ : ∃ wC, wX = wC := ⟨_, rfl⟩
      subst hwC
      have z0' := hS.cell z0
      clear hS C70 y0 y1 z0 z1
      go_wp2_with fail
      go_loopw [67] (fun sj wr2 => ∃ j : Nat, j ≤ n1 ∧ sj = .int .i64 j ∧ Hid (∀ i, i < j → okV (iv r.1 i) = true) ∧ Hid (Gr wX wr2)) (fun sj _ => n1 - (intOf sj).toNat)
      case atStart => exact ⟨0, Nat.zero_le _, rfl, Lh (fun i hi => absurd hi (Nat.not_lt_zero i)), Lh (Gr.refl wX)⟩
      case round =>
       obtain ⟨j, hj, rfl, HJ, HGj⟩ := hrel
       by_cases hjl : j < n1
       ·have j1 : (j : Int) < (n1 : Int) := by omega
        obtain ⟨vb, vo, rfl, hvc⟩ := ((HXR.out.2.2.2.2.gr (GXA.out.trans HGj.out))).at hjl
        have c1 := hvc j hjl
        by_cases hok : okV (iv r.1 j) = true
        ·have HOk := Lh hok
         have hb := (okV_iff.1 hok)
         have w5 := Lh (show wrap64 ((j : Int) + 1) = ((j + 1 : Nat) : Int) by rw [IntWalk.wrap64_in _ (by have := HXR.out.2.1; have := HXR.out.2.2.1; omega)]; omega)
         generalize hx5 : iv r.1 j = x5 at *
         have k1 : ¬ x5 < -999 := by omega
         have k2 : ¬ 999 < x5 := by omega
         have k3 : decide (x5 < -999) = false := decide_eq_false k1
         have k4 : decide (999 < x5) = false := decide_eq_false k2
         have HJ2 := Lh (show ∀ i, i < j + 1 → okV (iv r.1 i) = true from fun i hi => by
          rcases Nat.lt_succ_iff_lt_or_eq.1 hi with h | rfl
          ·exact HJ.out i h
          rw [hx5]; exact HOk.out)
         clear hvc hok hb hx5 HJ
         have e5 := w5.out
         go_wp2_with fail
         go_roundw
         case rel => exact ⟨j + 1, hjl, by first | rw [e5] | rfl, HJ2, HGj⟩
         case measure => first | (rw [e5]; simp [intOf]; omega) | (simp [intOf]; omega)
        have hb : ¬ (-999 ≤ iv r.1 j ∧ iv r.1 j ≤ 999) := fun h => hok (okV_iff.2 h)
        have F3 := Lh (KV.out ⟨j, hjl, hok⟩)
        generalize iv r.1 j = x5 at *
        clear hvc hok KV
        by_cases hlo : x5 < -999
        ·have k3 : decide (x5 < -999) = true := decide_eq_true hlo
         clear hb
         go_wp2_with fail
         go_ret
         rw [F3.out]
         exact ⟨rfl, GB.out.trans (GX.out.trans HGj.out)⟩
        have k3 : decide (x5 < -999) = false := decide_eq_false hlo
        have k5 : 999 < x5 := by omega
        have k4 : decide (999 < x5) = true := decide_eq_true k5
        clear hb
        go_wp2_with fail
        go_ret
        rw [F3.out]
        exact ⟨rfl, GB.out.trans (GX.out.trans HGj.out)⟩
       have hjn : j = n1 := by omega
       subst hjn
       have j1 : ¬ (j : Int) < (j : Int) := by omega
       have F3 := Lh (F2.out (fun i hi => HJ.out i hi))
       have e3 := w3.out
       clear F2 KV HJ z0'
       go_wp2_with fail
       go_roundw
       case rel => exact ⟨k + 1, hlt, by first | rw [e3] | rfl, F3, Lh (GX.out.trans HGj.out)⟩
       case measure => first | (rw [e3]; simp [intOf]; omega) | (simp [intOf]; omega)
     obtain ⟨a3, n3, c3, p0, xq⟩ := HPV.out hk0
     have kd : decide (0 < k) = true := decide_eq_true (by omega)
     obtain ⟨j, hj⟩ : ∃ j, k = j + 1 := ⟨k - 1, by omega⟩
     have hkj : k - 1 = j := by omega
     have j1 : (j : Int) < (n : Int) := by omega
     have e1 : wrap64 ((k : Int) - 1) = (j : Int) := by rw [IntWalk.wrap64_in _ (by have := HN.out; omega)]; omega
     have e2 : IntKind.i64.wrap ((k : Int) - 1) = (j : Int) := by rw [IntWalk.i64_in _ (by have := HN.out; omega)]; omega
     rw [hkj] at p0 xq E1
     by_cases hlo : (rw0 T j).1 < r.1
     ·have F2 := Lh (show (∀ j, j < n1 → okV (iv r.1 j) = true) → vRowsK W T (k + 1) = true from fun h => KS.out (by rw [E1.out, KA.out h, decide_eq_true hlo]; simp))
      have C92 := Lh (fun W1 (kg : Gr wA W1) => show Calls Tryz.prog 92 #[.slice a3 n3 c3, .slice a1 n1 c1] W1 fun e w' => ∃ z : Int, (e = .returned (.int .i64 z) ∧ decide (0 ≤ z) = false) ∧ Gr W1 w' from (compare_any a3 a1 n3 n1 c3 c1 (rw0 T j).1 r.1 W1 (xq.gr kg) (HXR.out.gr kg)).mono fun e w' ⟨⟨z, he, hz1, _⟩, g⟩ => ⟨z, ⟨he, decide_eq_false (by have := hz1.2 hlo; omega)⟩, g⟩)
      clear KS KF E1 HPV HL1 hs xq hj hkj hk0 hlo KA
      go_upto_region 6 with fail
      generalize wr.heap.size = b9 at *
      clear hwA d1 d2
      refine Hg (fun w' => Gr wA w') 35 ?_
      have hS : Gr wA wA.drew := (Gr.refl wA).drew
      refine H5 0 1 2 3 4 (c4 z0 z1 y0 y1) hS ?_; refine H4 5 6 7 8 (c4 z0 z1 y0 y1) hS ?_
      refine Hr 9 rfl (fun K hK => ?_)
      go_simp
      refine ⟨trivial, ?_⟩
      refine (callsIn_wide.2 (C70.out _ hS)).mono ?_
      rintro e wX ⟨rfl, gX⟩
      have hS : Gr wA wX := hS.trans gX
      refine hK.out _ _ hS ?_
      clear hK K gX
      refine H5 10 11 12 13 14 (c4 z0 z1 y0 y1) hS ?_; refine H4 15 16 17 18 (c4 z0 z1 y0 y1) hS ?_; refine H12 19 20 21 22 23 24 25 26 27 28 29 30 (c5 z0 z1 y0 y1 p0) hS ?_
      refine Hr 31 rfl (fun K hK => ?_)
      go_simp
      refine ⟨trivial, ?_⟩
      refine (callsIn_wide.2 (C92.out _ hS)).mono ?_
      rintro e wX ⟨z, ⟨rfl, hz9⟩, gX⟩
      have hS : Gr wA wX := hS.trans gX
      refine hK.out _ _ hS ?_
      clear hK K gX
      refine H3 32 33 34 (c4 z0 z1 y0 y1) hS ?_
      refine Hd ?_
      have GX := Lh (GA.out.trans hS)
      have GXA := Lh hS
      clear p0 e1 e2 j1 kd
      obtain ⟨wC, hwC⟩ : ∃ wC, wX = wC := ⟨_, rfl⟩
      subst hwC
      have z0' := hS.cell z0
      clear hS C70 y0 y1 z0 z1
      go_wp2_with fail
      go_loopw [67] (fun sj wr2 => ∃ j : Nat, j ≤ n1 ∧ sj = .int .i64 j ∧ Hid (∀ i, i < j → okV (iv r.1 i) = true) ∧ Hid (Gr wX wr2)) (fun sj _ => n1 - (intOf sj).toNat)
      case atStart => exact ⟨0, Nat.zero_le _, rfl, Lh (fun i hi => absurd hi (Nat.not_lt_zero i)), Lh (Gr.refl wX)⟩
      case round =>
       obtain ⟨j, hj, rfl, HJ, HGj⟩ := hrel
       by_cases hjl : j < n1
       ·have j1 : (j : Int) < (n1 : Int) := by omega
        obtain ⟨vb, vo, rfl, hvc⟩ := ((HXR.out.2.2.2.2.gr (GXA.out.trans HGj.out))).at hjl
        have c1 := hvc j hjl
        by_cases hok : okV (iv r.1 j) = true
        ·have HOk := Lh hok
         have hb := (okV_iff.1 hok)
         have w5 := Lh (show wrap64 ((j : Int) + 1) = ((j + 1 : Nat) : Int) by rw [IntWalk.wrap64_in _ (by have := HXR.out.2.1; have := HXR.out.2.2.1; omega)]; omega)
         generalize hx5 : iv r.1 j = x5 at *
         have k1 : ¬ x5 < -999 := by omega
         have k2 : ¬ 999 < x5 := by omega
         have k3 : decide (x5 < -999) = false := decide_eq_false k1
         have k4 : decide (999 < x5) = false := decide_eq_false k2
         have HJ2 := Lh (show ∀ i, i < j + 1 → okV (iv r.1 i) = true from fun i hi => by
          rcases Nat.lt_succ_iff_lt_or_eq.1 hi with h | rfl
          ·exact HJ.out i h
          rw [hx5]; exact HOk.out)
         clear hvc hok hb hx5 HJ
         have e5 := w5.out
         go_wp2_with fail
         go_roundw
         case rel => exact ⟨j + 1, hjl, by first | rw [e5] | rfl, HJ2, HGj⟩
         case measure => first | (rw [e5]; simp [intOf]; omega) | (simp [intOf]; omega)
        have hb : ¬ (-999 ≤ iv r.1 j ∧ iv r.1 j ≤ 999) := fun h => hok (okV_iff.2 h)
        have F3 := Lh (KV.out ⟨j, hjl, hok⟩)
        generalize iv r.1 j = x5 at *
        clear hvc hok KV
        by_cases hlo : x5 < -999
        ·have k3 : decide (x5 < -999) = true := decide_eq_true hlo
         clear hb
         go_wp2_with fail
         go_ret
         rw [F3.out]
         exact ⟨rfl, GB.out.trans (GX.out.trans HGj.out)⟩
        have k3 : decide (x5 < -999) = false := decide_eq_false hlo
        have k5 : 999 < x5 := by omega
        have k4 : decide (999 < x5) = true := decide_eq_true k5
        clear hb
        go_wp2_with fail
        go_ret
        rw [F3.out]
        exact ⟨rfl, GB.out.trans (GX.out.trans HGj.out)⟩
       have hjn : j = n1 := by omega
       subst hjn
       have j1 : ¬ (j : Int) < (j : Int) := by omega
       have F3 := Lh (F2.out (fun i hi => HJ.out i hi))
       have e3 := w3.out
       clear F2 KV HJ z0'
       go_wp2_with fail
       go_roundw
       case rel => exact ⟨k + 1, hlt, by first | rw [e3] | rfl, F3, Lh (GX.out.trans HGj.out)⟩
       case measure => first | (rw [e3]; simp [intOf]; omega) | (simp [intOf]; omega)
     have F2 := Lh (KF.out (by rw [E1.out, decide_eq_false hlo, decide_eq_false hk0]; simp))
     have C92 := Lh (fun W1 (kg : Gr wA W1) => show Calls Tryz.prog 92 #[.slice a3 n3 c3, .slice a1 n1 c1] W1 fun e w' => ∃ z : Int, (e = .returned (.int .i64 z) ∧ decide (0 ≤ z) = true) ∧ Gr W1 w' from (compare_any a3 a1 n3 n1 c3 c1 (rw0 T j).1 r.1 W1 (xq.gr kg) (HXR.out.gr kg)).mono fun e w' ⟨⟨z, he, hz1, _⟩, g⟩ => ⟨z, ⟨he, decide_eq_true (by
      rcases Int.lt_or_le z 0 with h | h
      ·exact absurd (hz1.1 h) hlo
      exact h)⟩, g⟩)
     clear KS KF E1 HPV HXR HL1 hs xq hj hkj hk0 hlo KA KV
     go_upto_region 6 with fail
     generalize wr.heap.size = b9 at *
     clear hwA d1 d2
     refine Hg (fun w' => Gr wA w') 35 ?_
     have hS : Gr wA wA.drew := (Gr.refl wA).drew
     refine H5 0 1 2 3 4 (c4 z0 z1 y0 y1) hS ?_; refine H4 5 6 7 8 (c4 z0 z1 y0 y1) hS ?_
     refine Hr 9 rfl (fun K hK => ?_)
     go_simp
     refine ⟨trivial, ?_⟩
     refine (callsIn_wide.2 (C70.out _ hS)).mono ?_
     rintro e wX ⟨rfl, gX⟩
     have hS : Gr wA wX := hS.trans gX
     refine hK.out _ _ hS ?_
     clear hK K gX
     refine H5 10 11 12 13 14 (c4 z0 z1 y0 y1) hS ?_; refine H4 15 16 17 18 (c4 z0 z1 y0 y1) hS ?_; refine H12 19 20 21 22 23 24 25 26 27 28 29 30 (c5 z0 z1 y0 y1 p0) hS ?_
     refine Hr 31 rfl (fun K hK => ?_)
     go_simp
     refine ⟨trivial, ?_⟩
     refine (callsIn_wide.2 (C92.out _ hS)).mono ?_
     rintro e wX ⟨z, ⟨rfl, hz9⟩, gX⟩
     have hS : Gr wA wX := hS.trans gX
     refine hK.out _ _ hS ?_
     clear hK K gX
     refine H3 32 33 34 (c4 z0 z1 y0 y1) hS ?_
     refine Hd ?_
     have GX := Lh (GA.out.trans hS)
     clear hS
     go_wp2_with fail
     go_ret
     rw [F2.out]
     exact ⟨rfl, GB.out.trans GX.out⟩
   have F2 := Lh (KF.out (by rw [E.out, ← HL1.out.1, decide_eq_false h1]; rfl))
   have h1c : ((n1 : Int) != W) = true := by simp; exact h1
   clear KS KF E C70 HPV HXR HL1 KV KA
   go_upto_region 6 with fail
   generalize wr.heap.size = b9 at *
   clear hwA d1 d2
   refine Hg (fun w' => Gr wA w') 35 ?_
   have hS : Gr wA wA.drew := (Gr.refl wA).drew
   refine H5 0 1 2 3 4 (c4 z0 z1 y0 y1) hS ?_; refine H2 5 6 (c4 z0 z1 y0 y1) hS ?_; refine Hs4 7 8 9 10 hS ?_; refine H2 11 12 (c4 z0 z1 y0 y1) hS ?_; refine Hs4 13 14 15 16 hS ?_; refine H2 17 18 (c4 z0 z1 y0 y1) hS ?_; refine Hs8 19 20 21 22 23 24 25 26 hS ?_; refine Hs4 27 28 29 30 hS ?_; refine Hs2 31 32 hS ?_; refine Hs1 33 hS ?_; refine H1 34 (c4 z0 z1 y0 y1) hS ?_
   refine Hd ?_
   have GX := Lh (GA.out.trans hS)
   clear hS
   go_wp2_with fail
   go_ret
   rw [F2.out]
   exact ⟨rfl, GB.out.trans GX.out⟩
  obtain rfl : k = n := by omega
  have F2 := Lh (show vTab W T = true by unfold vTab; rw [← HN.out.1, HK0.out, HTop.out.1, show decide (k ≤ 60) = true by have := HTop.out.2; rwa [← HN.out.1] at this]; rfl)
  have i1 : ¬ (k : Int) < (k : Int) := by omega
  clear hlt
  go_wp2_with fail
  go_ret
  rw [F2.out]
  exact ⟨rfl, GB.out.trans HG.out⟩
theorem refValid_any (a : Option Addr) (n c : Nat) (Ts : List (Int × Tbl SL)) (w : World) (h : RdWs w a n c Ts) (hz : SzWs Ts) : Calls Tryz.prog 23 #[.slice a n c] w (RetB (vTabs Ts) w) := by
 have HX := Lh h
 have HZ := Lh hz
 have HN := Lh (show n = Ts.length ∧ n ≤ 9223372036854775807 from ⟨h.1, by have := h.2.1; have := h.2.2.1; omega⟩)
 clear h hz
 go_enter Tryz.func23, Tryz.ntmps23
 go_wp2_with fail
 go_loopw [7] (fun i wr => ∃ k : Nat, k ≤ n ∧ i = .int .i64 k ∧ Hid (∀ i, i < k → vTab (tb0 Ts i).1 (tb0 Ts i).2 = true) ∧ Hid (Gr w wr)) (fun i _ => n - (intOf i).toNat)
 case atStart => exact ⟨0, Nat.zero_le _, rfl, Lh (fun i hi => absurd hi (Nat.not_lt_zero i)), Lh (Gr.refl _)⟩
 case round =>
  obtain ⟨k, hk, rfl, Hi, HG⟩ := hrel
  by_cases hlt : k < n
  ·obtain ⟨b, o, r, a1, n1, c1, rfl, hx, k1, k2, hW⟩ := (HX.out.gr HG.out).at hlt
   have i1 : (k : Int) < n := by omega
   have hrz := (HZ.out r (List.mem_of_getElem? hx)).2
   obtain ⟨wA, hwA⟩ : ∃ wA, wr.alloc (.cells #[.int .i64 r.1, .slice a1 n1 c1] 36) = wA := ⟨_, rfl⟩
   have gA : Gr wr wA := hwA ▸ (Gr.refl wr).alloc _
   have GA := Lh (HG.out.trans gA)
   obtain ⟨z0, z1⟩ : wA.cell? ⟨wr.heap.size, 0, none⟩ = some (.int .i64 r.1) ∧ wA.cell? ⟨wr.heap.size, 1, none⟩ = some (.slice a1 n1 c1) := by rw [← hwA]; exact box_is wr r.1 _ 36
   have C := Lh (validTable_any r.1 a1 n1 c1 r.2 wA (hW.gr gA) hrz)
   obtain ⟨d, hd⟩ : ∃ d, d = vTab r.1 r.2 := ⟨_, rfl⟩
   rw [← hd] at C
   have HD := Lh (show vTab (tb0 Ts k).1 (tb0 Ts k).2 = d by rw [tb0_get hx, hd])
   have HF := Lh (show d = false → vTabs Ts = false from fun h0 => by
    unfold vTabs
    have : (Ts.all fun x => vTab x.1 x.2) = false := by
     rw [List.all_eq_false]
     exact ⟨r, List.mem_of_getElem? hx, by rw [← hd, h0]; decide⟩
    rw [this]; simp)
   have HL := Lh hlt
   clear hlt hd gA hx hW hrz
   obtain ⟨rW, rT⟩ := r
   simp only at C k1 z0
   cases d with
   | false =>
    have F2 := Lh (HF.out rfl)
    clear HF
    go_wp2_with (go_at_call 60; (refine C.out.mono ?_); rintro e w1 ⟨rfl, g1⟩; have G1 := Lh g1; clear g1)
    go_ret
    rw [F2.out]
    exact ⟨rfl, GA.out.trans G1.out⟩
   | true =>
    have e3 : wrap64 ((k : Int) + 1) = ((k + 1 : Nat) : Int) := by rw [IntWalk.wrap64_in _ (by have := HL.out; have := HN.out; omega)]; omega
    have E3 := Lh e3
    clear e3 HF
    go_wp2_with (go_at_call 60; (refine C.out.mono ?_); rintro e w1 ⟨rfl, g1⟩; have G1 := Lh g1; clear g1; have e3 := E3.out)
    go_roundw
    case rel => exact ⟨k + 1, HL.out, by first | rw [e3] | rfl, Lh (fun i hi => by
     rcases Nat.lt_succ_iff_lt_or_eq.1 hi with h | rfl
     ·exact Hi.out i h
     exact HD.out), Lh (GA.out.trans G1.out)⟩
    case measure =>
     have := HL.out
     first | (rw [e3]; simp [intOf]; omega) | (simp [intOf]; omega)
  obtain rfl : k = n := by omega
  have HA := Lh (show (Ts.all fun x => vTab x.1 x.2) = true by
   rw [List.all_eq_true]
   intro x hx
   obtain ⟨i, hi, rfl⟩ := List.getElem_of_mem hx
   have := Hi.out i (by have := HN.out.1; omega)
   rwa [tb0_get (List.getElem?_eq_getElem hi)] at this)
  by_cases h1 : 1 ≤ k
  ·by_cases h4 : k ≤ 4
   ·have F2 := Lh (show vTabs Ts = true by unfold vTabs; rw [HA.out, ← HN.out.1, decide_eq_true h1, decide_eq_true h4]; rfl)
    have j1 : decide (1 ≤ (k : Int)) = true := decide_eq_true (by omega)
    have j2 : decide ((k : Int) ≤ 4) = true := decide_eq_true (by omega)
    have j3 : decide (1 ≤ k) = true := decide_eq_true h1
    have j4 : decide (k ≤ 4) = true := decide_eq_true h4
    clear h1 h4 hlt
    go_wp2_with fail
    go_ret
    rw [F2.out]
    first | exact ⟨rfl, HG.out⟩ | exact ⟨by simp [j1, j2, j3, j4], HG.out⟩
   have F2 := Lh (show vTabs Ts = false by unfold vTabs; rw [← HN.out.1, decide_eq_false h4]; simp)
   have j1 : decide (1 ≤ (k : Int)) = true := decide_eq_true (by omega)
   have j2 : decide ((k : Int) ≤ 4) = false := decide_eq_false (by omega)
   have j3 : decide (1 ≤ k) = true := decide_eq_true h1
   have j4 : decide (k ≤ 4) = false := decide_eq_false h4
   clear h1 h4 hlt
   go_wp2_with fail
   go_ret
   rw [F2.out]
   first | exact ⟨rfl, HG.out⟩ | exact ⟨by simp [j1, j2, j3, j4], HG.out⟩
  have F2 := Lh (show vTabs Ts = false by unfold vTabs; rw [← HN.out.1, decide_eq_false h1]; simp)
  have j1 : decide (1 ≤ (k : Int)) = false := decide_eq_false (by omega)
  have j3 : decide (1 ≤ k) = false := decide_eq_false h1
  clear h1 hlt
  go_wp2_with fail
  go_ret
  rw [F2.out]
  first | exact ⟨rfl, HG.out⟩ | exact ⟨by simp [j1, j3], HG.out⟩
end Go.Proofs.YtehdemcfeoiecaaGreatDoor
