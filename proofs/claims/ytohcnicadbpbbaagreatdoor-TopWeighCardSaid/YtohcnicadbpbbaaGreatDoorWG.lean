/- Contracts of chapter 7: how far apart (the reference), and the pairs, of the program and of the reference. -/
import Derived.Test.YtohcnicadbpbbaaGreatDoorMD
namespace Go.Proofs.YtohcnicadbpbbaaGreatDoor
open Go.RowKit Go.Firn

theorem par_bd {f g : Nat → Int} {n : Nat} (hf : ∀ i, i < n → 0 ≤ f i ∧ f i ≤ 1000) (hg : ∀ i, i < n → 0 ≤ g i ∧ g i ≤ 1000) {a b : Nat} (ha : a < n) (hb : b < n) : 0 ≤ parN f g a b ∧ parN f g a b ≤ 2000000 := by
  have x := Int.mul_nonneg (hg a ha).1 (hf b hb).1
  have y := (mul_bd (a := g a) (b := f b) (A := 1000) (B := 1000) (by have := hg a ha; omega) (hg a ha).2 (by have := hf b hb; omega) (hf b hb).2).2
  unfold parN
  repeat' split
  all_goals omega
theorem prs_bd {f g : Nat → Int} {n : Nat} (hn : n ≤ 10) (hf : ∀ i, i < n → 0 ≤ f i ∧ f i ≤ 1000) (hg : ∀ i, i < n → 0 ≤ g i ∧ g i ≤ 1000) {k : Nat} (hk : k ≤ n) :
    (0 ≤ sm (fun a => sm (fun b => parN f g a b) n) k ∧ sm (fun a => sm (fun b => parN f g a b) n) k ≤ 200000000) ∧ (k < n → ∀ j, j ≤ n → 0 ≤ sm (fun b => parN f g k b) j ∧ sm (fun b => parN f g k b) j ≤ 20000000) := by
  have s : ∀ a, a < n → ∀ j, j ≤ n → 0 ≤ sm (fun b => parN f g a b) j ∧ sm (fun b => parN f g a b) j ≤ 20000000 := fun a ha j hj => by
    have := sm_bd (f := fun b => parN f g a b) (B := 2000000) (k := j) (fun i hi => par_bd hf hg ha (by omega))
    omega
  have t := sm_bd (f := fun a => sm (fun b => parN f g a b) n) (B := 20000000) (k := k) (fun i hi => s i (by omega) n (Nat.le_refl n))
  exact ⟨by omega, fun hl j hj => s k hl j hj⟩
theorem own_lt {f g : Nat → Int} (hf : ∀ i, 0 ≤ f i) (hg : ∀ i, 0 ≤ g i) {a b : Nat} (h : cmpO f g a b < 0) : 2 * g a * f b = parN f g a b := by
  have d : crs f g a b = g a * f b - g b * f a := rfl
  rw [Int.mul_assoc]
  unfold parN
  rcases cmpO_lt.1 h with h1 | ⟨_, h1⟩
  · rcases nth_cases (hf b) (hg b) with ⟨nb, fb, gb⟩ | ⟨nb, pb⟩
    · rw [d, fb, gb]; simp
    · rcases nth_cases (hf a) (hg a) with ⟨na, fa, ga⟩ | ⟨na, pa⟩ <;> omega
  · rw [if_pos h1]
theorem own_eq {f g : Nat → Int} {a b : Nat} (h : cmpO f g a b = 0) : g a * f b = parN f g a b := by
  have h1 := (cmpO_eq.1 h).2
  unfold parN
  rw [h1]; simp
theorem own_gt {f g : Nat → Int} (hf : ∀ i, 0 ≤ f i) (hg : ∀ i, 0 ≤ g i) {a b : Nat} (h : ¬ cmpO f g a b < 0) (h0 : ¬ cmpO f g a b = 0) : parN f g a b = 0 := by
  have d : crs f g a b = g a * f b - g b * f a := rfl
  rw [cmpO_lt] at h
  rw [cmpO_eq] at h0
  unfold parN
  by_cases e : nth f g a = nth f g b
  · rw [if_neg (by omega), if_neg (by omega)]
  · rcases nth_cases (hf a) (hg a) with ⟨na, fa, ga⟩ | ⟨na, pa⟩
    · rw [d, fa, ga]; simp
    · rcases nth_cases (hf b) (hg b) with ⟨nb, fb, gb⟩ | ⟨nb, pb⟩ <;> omega

set_option maxHeartbeats 2000000 in
set_option maxRecDepth 100000 in
theorem Pairs_no (a a2 : Option Addr) (n c m d : Nat) (f g : Nat → Int) (w : World) (hn : n ≤ 1000) (hm : m ≤ 1000) (hr : RdI w a n f) (hs : RdI w a2 m g) (hv : vO n m f g = false) :
    Calls Tryz.prog 21 #[.agg #[.slice a n c, .slice a2 m d]] w (RetRE 0 0 70 w) := by
  obtain ⟨W0, hW0⟩ : ∃ W0, (w.alloc (.cells #[.slice a n c, .slice a2 m d] 24)).alloc (.cells #[.int .i64 0, .int .i64 0] 28) = W0 := ⟨_, rfl⟩
  have G0 := Lib.hid (show Gr w W0 by rw [← hW0]; exact ((Gr.refl w).alloc _).alloc _)
  have B1 := Lib.hid (show BoxO W0 w.heap.size (.slice a n c) (.slice a2 m d) by rw [← hW0]; exact (BoxO.new rfl).gr ((Gr.refl _).alloc _))
  have B2 := Lib.hid (show Box2 W0 (w.heap.size + 1) 0 0 by rw [← hW0]; exact Box2.new (by simp))
  have C := Lib.hid (fun w' (k : Gr w w') => newOdds_no a a2 n c m d f g w' hn hm (hr.gr k) (hs.gr k) hv)
  obtain ⟨p0, p1⟩ := B1.out
  clear hr hs hv
  go_enter Tryz.func21, Tryz.ntmps21
  go_wp2_with (go_at_call 29; (with_reducible refine (C.out _ G0.out).mono ?_); rintro e w1 ⟨rfl, g1⟩; have g1' := g1.alloc (.cells #[.slice none 0 0, .slice none 0 0, .int .i64 0, .int .i64 0] 57); have G1 := Lib.hid (G0.out.trans g1'); have N1 := Lib.hid (World.block_lt_of_cell? w1 _ (B2.out.gr g1).1); obtain ⟨k0, k1, k2, k3⟩ := B2.out.gr g1'; clear g1 g1')
  obtain ⟨z0, z1, _⟩ := (show Box2 (w1.alloc (.cells #[.slice none 0 0, .slice none 0 0, .int .i64 0, .int .i64 0] 57)) (w.heap.size + 1) 0 0 from ⟨k0, k1, k2, k3⟩).put (x' := 0) (y' := 0)
  refine bodyPost_ret (v := .tuple #[.agg #[.int .i64 0, .int .i64 0], .int .i64 70]) (by simp [results, Tryz.results21, go_sem, z0, z1]) rfl ⟨rfl, ?_⟩
  repeat (first | exact G1.out | refine Gr.setCell ?_ (by simp; omega) _ | refine Gr.setCell ?_ (by simp) _ | refine Gr.alloc ?_ _ | refine Gr.drewN ?_ _ | refine Gr.drew ?_)

set_option maxHeartbeats 4000000 in
set_option maxRecDepth 100000 in
theorem Pairs_ok (a a2 : Option Addr) (n c d : Nat) (f g : Nat → Int) (w : World) (hr : RdI w a n f) (hs : RdI w a2 n g) (hf : ∀ i, 0 ≤ f i) (hg : ∀ i, 0 ≤ g i) (hv : VO n n f g) :
    Calls Tryz.prog 21 #[.agg #[.slice a n c, .slice a2 n d]] w (RetRE (rN (prs f g n) (2 * sm f n * sm g n)) (rD (prs f g n) (2 * sm f n * sm g n)) 0 w) := by
  have hn := hv.noise.few
  have hn0 := hv.noise.one
  obtain ⟨W0, hW0⟩ : ∃ W0, (w.alloc (.cells #[.slice a n c, .slice a2 n d] 24)).alloc (.cells #[.int .i64 0, .int .i64 0] 28) = W0 := ⟨_, rfl⟩
  have G0 := Lib.hid (show Gr w W0 by rw [← hW0]; exact ((Gr.refl w).alloc _).alloc _)
  have B1 := Lib.hid (show BoxO W0 w.heap.size (.slice a n c) (.slice a2 n d) by rw [← hW0]; exact (BoxO.new rfl).gr ((Gr.refl _).alloc _))
  have B2 := Lib.hid (show Box2 W0 (w.heap.size + 1) 0 0 by rw [← hW0]; exact Box2.new (by simp))
  have HF := Lib.hid hv.noise.ok
  have HG := Lib.hid hv.signal.ok
  have HF0 := Lib.hid hf
  have HG0 := Lib.hid hg
  have SF := sm_pos_bd hv.noise
  have SG := sm_pos_bd hv.signal
  have PR := prod_bd (a := sm f n) (b := sm g n) (by omega) (by omega)
  have PR2 := mul_bd (a := sm f n) (b := sm g n) (A := 10000) (B := 10000) (by omega) (by omega) (by omega) (by omega)
  have hr1 := Lib.hid hr
  have hs1 := Lib.hid hs
  obtain ⟨p0, p1⟩ := B1.out
  have C := Lib.hid (fun w' (k : Gr w w') => newOdds_ok a a2 n c n d f g w' (by omega) (by omega) (hr.gr k) (hs.gr k) (vO_iff.2 hv))
  have BD := Lib.hid (fun (k : Nat) (hk : k ≤ n) => prs_bd hn hv.noise.ok hv.signal.ok hk)
  have ED := Lib.hid (show 2 * sm f n * sm g n = 2 * (sm f n * sm g n) from Int.mul_assoc _ _ _)
  have q5 : IntKind.i64.wrap (2 * sm f n) = 2 * sm f n := IntWalk.i64_in _ (by omega)
  have q6 : IntKind.i64.wrap (2 * sm f n * sm g n) = 2 * sm f n * sm g n := by rw [ED.out]; exact IntWalk.i64_in _ (by omega)
  have CX := Lib.hid (fun (x : Int) (h0 : 0 ≤ x) (h1 : x ≤ 1000000000) (w' : World) => ratio_any x (2 * sm f n * sm g n) w' (Sz.of (by omega) (by omega)) (by rw [ED.out]; exact Sz.of (by omega) (by omega)) (by rw [ED.out]; omega))
  have CM := Lib.hid (fun (u v : Value) (i j : Nat) (hi : i < n) (hj : j < n) (w' : World) (k : Gr w w') => compare_any a a2 n c d f g i j u v w' hi hj (hr.gr k) (hs.gr k) hv.noise.ok hv.signal.ok)
  unfold prs
  clear hr hs hf hg hv PR PR2 ED SF SG
  generalize sm f n = sf at *
  generalize sm g n = sg at *
  go_enter Tryz.func21, Tryz.ntmps21
  go_wp2_with (first
    | (go_at_call 29; (with_reducible refine (C.out _ G0.out).mono ?_); rintro e w1 ⟨rfl, g1⟩; have g1' := g1.alloc (.cells #[.slice a n c, .slice a2 n d, .int .i64 sf, .int .i64 sg] 57); obtain ⟨W1, hW1⟩ : ∃ W1, w1.alloc (.cells #[.slice a n c, .slice a2 n d, .int .i64 sf, .int .i64 sg] 57) = W1 := ⟨_, rfl⟩; rw [hW1] at g1'; have G1 := Lib.hid (G0.out.trans g1'); have B3 := Lib.hid (show Box4 W1 w1.heap.size (.slice a n c) (.slice a2 n d) (.int .i64 sf) (.int .i64 sg) by rw [← hW1]; exact Box4.new rfl); have B2x := Lib.hid (B2.out.gr g1'); have B1x := Lib.hid (B1.out.gr g1'); clear p0 p1; obtain ⟨p0, p1⟩ := B1x.out; clear g1 g1'))
  go_loopw [6, 7, 8, 9, 22] (fun x _ _ _ i wr => ∃ k : Nat, k ≤ n ∧ i = .int .i64 k ∧ x = .int .i64 (sm (fun a => sm (fun b => parN f g a b) n) k) ∧ Hid (Gr W1 wr)) (fun _ _ _ _ i _ => n - (intOf i).toNat)
  case atStart => exact ⟨0, by omega, rfl, rfl, Lib.hid (by first | exact Gr.refl _ | exact (Gr.refl _).drew)⟩
  case round =>
    obtain ⟨k, hk, rfl, rfl, HW⟩ := hrel
    by_cases hlt : k < n
    · have hlti : (k : Int) < (n : Int) := by omega
      have GW := Lib.hid (G1.out.trans HW.out)
      obtain ⟨s0, s1⟩ := B1x.out.gr HW.out
      obtain ⟨⟨x0, x1⟩, BS⟩ := BD.out k hk
      have BS := BS hlt
      have EK := Lib.hid (show sm (fun a => sm (fun b => parN f g a b) n) (k + 1) = sm (fun a => sm (fun b => parN f g a b) n) k + sm (fun b => parN f g k b) n from rfl)
      generalize sm (fun a => sm (fun b => parN f g a b) n) k = pk at *
      go_wp2_with fail
      clear s0 s1
      go_loopw [6, 8, 9, 28] (fun x _ _ i wr' => ∃ j : Nat, j ≤ n ∧ i = .int .i64 j ∧ x = .int .i64 (pk + sm (fun b => parN f g k b) j) ∧ Hid (Gr wr wr')) (fun _ _ _ i _ => n - (intOf i).toNat)
      case atStart => exact ⟨0, by omega, rfl, by simp [sm], Lib.hid (Gr.refl _)⟩
      case round =>
        obtain ⟨j, hj0, rfl, rfl, GJ⟩ := hrel
        have GI := Lib.hid (GW.out.trans GJ.out)
        by_cases hj : j < n
        · have hji : (j : Int) < (n : Int) := by omega
          have HC := Lib.hid (CM.out (.int .i64 sf) (.int .i64 sg) k j hlt hj)
          obtain ⟨t0, t1, t2, t3, _⟩ := B3.out.gr (HW.out.trans GJ.out)
          obtain ⟨s0, s1⟩ := B1x.out.gr (HW.out.trans GJ.out)
          obtain ⟨b4, o4, e4, h4⟩ := (hr1.out.gr GI.out).at hlt
          obtain ⟨b5, o5, e5, h5⟩ := (hs1.out.gr GI.out).at hlt
          have c4 := h4 _ hj
          have c5 := h5 _ hlt
          have f0 := HF.out _ hj
          have g0 := HG.out _ hlt
          obtain ⟨y0, y1⟩ := BS j hj0
          have E3 := Lib.hid (show sm (fun b => parN f g k b) (j + 1) = sm (fun b => parN f g k b) j + parN f g k j from rfl)
          subst e4
          subst e5
          have m1 := mul_bd (a := g k) (b := f j) (A := 1000) (B := 1000) (by omega) (by omega) (by omega) (by omega)
          have m2 := Int.mul_nonneg g0.1 f0.1
          have AS := Lib.hid (show 2 * g k * f j = 2 * (g k * f j) from Int.mul_assoc _ _ _)
          generalize sm (fun b => parN f g k b) j = sj at *
          have q1 : IntKind.i64.wrap (2 * g k) = 2 * g k := IntWalk.i64_in _ (by omega)
          have q2 : IntKind.i64.wrap (2 * g k * f j) = 2 * g k * f j := by rw [AS.out]; exact IntWalk.i64_in _ (by omega)
          have q3 : IntKind.i64.wrap (g k * f j) = g k * f j := IntWalk.i64_in _ (by omega)
          have q4 : IntKind.i64.wrap (pk + sj + 2 * g k * f j) = pk + sj + 2 * g k * f j := by rw [AS.out]; exact IntWalk.i64_in _ (by omega)
          have q7 : IntKind.i64.wrap (pk + sj + g k * f j) = pk + sj + g k * f j := IntWalk.i64_in _ (by omega)
          have v2 := Lib.hid (show wrap64 (2 * g k * f j) = 2 * g k * f j by rw [AS.out]; exact IntWalk.wrap64_in _ (by omega))
          have v3 := Lib.hid (show wrap64 (g k * f j) = g k * f j from IntWalk.wrap64_in _ (by omega))
          have v4 := Lib.hid (show wrap64 (pk + sj + 2 * g k * f j) = pk + sj + 2 * g k * f j by rw [AS.out]; exact IntWalk.wrap64_in _ (by omega))
          have v5 := Lib.hid (show wrap64 (pk + sj + g k * f j) = pk + sj + g k * f j from IntWalk.wrap64_in _ (by omega))
          have L1 := Lib.hid (fun h => own_lt HF0.out HG0.out (a := k) (b := j) h)
          have L2 := Lib.hid (fun h => own_eq (f := f) (g := g) (a := k) (b := j) h)
          have L3 := Lib.hid (fun h h0 => own_gt HF0.out HG0.out (a := k) (b := j) h h0)
          generalize cmpO f g k j = cc at *
          by_cases h1 : cc < 0
          · have P1 := L1.out h1
            clear L1 L2 L3
            clear h4 h5 AS m1 m2
            generalize parN f g k j = pv at *
            generalize f j = fx at *
            generalize g k = gx at *
            go_wp2_with (go_at_call 48; (with_reducible refine (HC.out _ GI.out).mono ?_); rintro e wL ⟨rfl, gL⟩; have GL := Lib.hid gL; clear gL s0 s1; obtain ⟨s0, s1⟩ := B1x.out.gr ((HW.out.trans GJ.out).trans GL.out); have c4 := GL.out.cell c4; have c5 := GL.out.cell c5)
            go_quiet (fail)
            go_wp2_with fail
            go_roundw
            case rel => exact ⟨j + 1, hj, by go_num, by rw [E3.out, ← P1]; first | (congr 1; omega) | (rw [v2.out, v4.out]; congr 1; omega) | (rw [v3.out, v5.out]; congr 1; omega), Lib.hid ((GJ.out.trans GL.out).drewN _)⟩
            case measure => simp [intOf]; omega
          · by_cases h2 : cc = 0
            · have P1 := L2.out h2
              clear L1 L2 L3
              subst h2
              clear h4 h5 AS m1 m2
              generalize parN f g k j = pv at *
              generalize f j = fx at *
              generalize g k = gx at *
              go_wp2_with (go_at_call 48; (with_reducible refine (HC.out _ GI.out).mono ?_); rintro e wL ⟨rfl, gL⟩; have GL := Lib.hid gL; clear gL s0 s1; obtain ⟨s0, s1⟩ := B1x.out.gr ((HW.out.trans GJ.out).trans GL.out); have c4 := GL.out.cell c4; have c5 := GL.out.cell c5)
              go_quiet (fail)
              go_wp2_with fail
              go_roundw
              case rel => exact ⟨j + 1, hj, by go_num, by rw [E3.out, ← P1]; first | (congr 1; omega) | (rw [v2.out, v4.out]; congr 1; omega) | (rw [v3.out, v5.out]; congr 1; omega), Lib.hid ((GJ.out.trans GL.out).drewN _)⟩
              case measure => simp [intOf]; omega
            · have P1 := L3.out h1 h2
              clear L1 L2 L3
              have h3 : (cc == 0) = false := by simp [h2]
              clear h4 h5 AS m1 m2
              generalize parN f g k j = pv at *
              generalize f j = fx at *
              generalize g k = gx at *
              go_wp2_with (go_at_call 48; (with_reducible refine (HC.out _ GI.out).mono ?_); rintro e wL ⟨rfl, gL⟩; have GL := Lib.hid gL; clear gL s0 s1; obtain ⟨s0, s1⟩ := B1x.out.gr ((HW.out.trans GJ.out).trans GL.out); have c4 := GL.out.cell c4; have c5 := GL.out.cell c5)
              go_roundw
              case rel => exact ⟨j + 1, hj, by go_num, by rw [E3.out, P1]; first | (congr 1; omega) | (rw [v2.out, v4.out]; congr 1; omega) | (rw [v3.out, v5.out]; congr 1; omega), Lib.hid (GJ.out.trans GL.out)⟩
              case measure => simp [intOf]; omega
        · obtain rfl : j = n := by omega
          go_wp2_with fail
          go_roundw
          case rel => exact ⟨k + 1, hlt, by go_num, by rw [EK.out], Lib.hid (HW.out.trans GJ.out)⟩
          case measure => simp [intOf]; omega
    · obtain rfl : k = n := by omega
      obtain ⟨⟨x0, x1'⟩, _⟩ := BD.out k hk
      have x1 : sm (fun a => sm (fun b => parN f g a b) k) k ≤ 1000000000 := by omega
      clear hlt
      obtain ⟨tw, htw⟩ : ∃ tw, sm (fun a => sm (fun b => parN f g a b) k) k = tw := ⟨_, rfl⟩
      rw [htw] at x0 x1 ⊢
      obtain ⟨r0, r1, r2, r3, _⟩ := B3.out.gr HW.out
      have B2' := Lib.hid (B2x.out.gr HW.out)
      have GW := Lib.hid (G1.out.trans HW.out)
      go_wp2_with (go_at_call 36; (with_reducible refine (CX.out _ x0 x1 _).mono ?_); rintro e w3 ⟨rfl, g3⟩; have G3 := Lib.hid (GW.out.trans g3); obtain ⟨k0, k1, k2, k3⟩ := B2'.out.gr g3; clear g3)
      obtain ⟨z0, z1, _⟩ := (show Box2 w3 (w.heap.size + 1) 0 0 from ⟨k0, k1, k2, k3⟩).put (x' := rN tw (2 * sf * sg)) (y' := rD tw (2 * sf * sg))
      refine bodyPost_ret (v := .tuple #[.agg #[.int .i64 (rN tw (2 * sf * sg)), .int .i64 (rD tw (2 * sf * sg))], .int .i64 0]) (by simp [results, Tryz.results21, go_sem, z0, z1]) rfl ⟨by first | rfl | (subst htw; rfl), ?_⟩
      repeat (first | exact G3.out | refine Gr.setCell ?_ (by simp; omega) _ | refine Gr.setCell ?_ (by simp) _ | refine Gr.alloc ?_ _ | refine Gr.drewN ?_ _ | refine Gr.drew ?_)

end Go.Proofs.YtohcnicadbpbbaaGreatDoor
