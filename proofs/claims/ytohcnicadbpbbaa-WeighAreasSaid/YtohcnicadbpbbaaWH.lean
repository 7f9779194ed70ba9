/- Contracts of chapter 7: the pairs of the reference. -/
import Derived.Test.YtohcnicadbpbbaaWG
namespace Go.Proofs.Ytohcnicadbpbbaa
open Go.RowKit Go.Firn

theorem ref_lt {f g : Nat → Int} {a b : Nat} (h : 0 < crs f g a b) : 2 * g a * f b = parN f g a b := by
  rw [Int.mul_assoc]; unfold parN; rw [if_pos h]
theorem ref_eq {f g : Nat → Int} {a b : Nat} (h : ¬ 0 < crs f g a b) (h2 : ¬ 0 < crs f g b a) : g a * f b = parN f g a b := by
  have e := crs_swap f g a b
  unfold parN; rw [if_neg h, if_pos (by omega)]
theorem ref_gt {f g : Nat → Int} {a b : Nat} (h : ¬ 0 < crs f g a b) (h2 : 0 < crs f g b a) : parN f g a b = 0 := by
  have e := crs_swap f g a b
  unfold parN; rw [if_neg h, if_neg (by omega)]

set_option maxHeartbeats 2000000 in
set_option maxRecDepth 100000 in
theorem refPairs_no (a a2 : Option Addr) (n c m d : Nat) (f g : Nat → Int) (w : World) (hn : n ≤ 1000) (hm : m ≤ 1000) (hr : RdI w a n f) (hs : RdI w a2 m g) (hv : vO n m f g = false) :
    Calls Try.prog 23 #[.agg #[.slice a n c, .slice a2 m d]] w (RetRE 0 0 70 w) := by
  obtain ⟨W0, hW0⟩ : ∃ W0, (w.alloc (.cells #[.slice a n c, .slice a2 m d] 24)).alloc (.cells #[.int .i64 0, .int .i64 0] 28) = W0 := ⟨_, rfl⟩
  have G0 := Lib.hid (show Gr w W0 by rw [← hW0]; exact ((Gr.refl w).alloc _).alloc _)
  have B1 := Lib.hid (show BoxO W0 w.heap.size (.slice a n c) (.slice a2 m d) by rw [← hW0]; exact (BoxO.new rfl).gr ((Gr.refl _).alloc _))
  have B2 := Lib.hid (show Box2 W0 (w.heap.size + 1) 0 0 by rw [← hW0]; exact Box2.new (by simp))
  have C := Lib.hid (fun w' (k : Gr w w') => refValid_any a a2 n c m d f g w' hn hm (hr.gr k) (hs.gr k))
  rw [hv] at C
  obtain ⟨p0, p1⟩ := B1.out
  clear hr hs hv
  go_enter Try.func23, Try.ntmps23
  go_wp2_with (go_at_call 15; (with_reducible refine (C.out _ G0.out).mono ?_); rintro e w1 ⟨rfl, g1⟩; have G1 := Lib.hid (G0.out.trans g1); obtain ⟨k0, k1, k2, k3⟩ := B2.out.gr g1; clear g1)
  obtain ⟨z0, z1, _⟩ := (show Box2 w1 (w.heap.size + 1) 0 0 from ⟨k0, k1, k2, k3⟩).put (x' := 0) (y' := 0)
  refine bodyPost_ret (v := .tuple #[.agg #[.int .i64 0, .int .i64 0], .int .i64 70]) (by simp [results, Try.results23, go_sem, z0, z1]) rfl ⟨rfl, ?_⟩
  repeat (first | exact G1.out | refine Gr.setCell ?_ (by simp; omega) _ | refine Gr.setCell ?_ (by simp) _ | refine Gr.alloc ?_ _ | refine Gr.drewN ?_ _ | refine Gr.drew ?_)

set_option maxHeartbeats 4000000 in
set_option maxRecDepth 100000 in
theorem refPairs_ok (a a2 : Option Addr) (n c d : Nat) (f g : Nat → Int) (w : World) (hr : RdI w a n f) (hs : RdI w a2 n g) (hf : ∀ i, 0 ≤ f i) (hg : ∀ i, 0 ≤ g i) (hv : VO n n f g) :
    Calls Try.prog 23 #[.agg #[.slice a n c, .slice a2 n d]] w (RetRE (rN (prs f g n) (2 * sm g n * sm f n)) (rD (prs f g n) (2 * sm g n * sm f n)) 0 w) := by
  have hn := hv.noise.few
  have hn0 := hv.noise.one
  obtain ⟨W0, hW0⟩ : ∃ W0, (w.alloc (.cells #[.slice a n c, .slice a2 n d] 24)).alloc (.cells #[.int .i64 0, .int .i64 0] 28) = W0 := ⟨_, rfl⟩
  have G0 := Lib.hid (show Gr w W0 by rw [← hW0]; exact ((Gr.refl w).alloc _).alloc _)
  have B1 := Lib.hid (show BoxO W0 w.heap.size (.slice a n c) (.slice a2 n d) by rw [← hW0]; exact (BoxO.new rfl).gr ((Gr.refl _).alloc _))
  have B2 := Lib.hid (show Box2 W0 (w.heap.size + 1) 0 0 by rw [← hW0]; exact Box2.new (by simp))
  have HF := Lib.hid hv.noise.ok
  have HG := Lib.hid hv.signal.ok
  have HF0 := Lib.hid hf
  have HG0 := Lib.hid hg
  have SF := sm_pos_bd hv.noise
  have SG := sm_pos_bd hv.signal
  have PR := prod_bd (a := sm f n) (b := sm g n) (by omega) (by omega)
  have PR2 := mul_bd (a := sm f n) (b := sm g n) (A := 10000) (B := 10000) (by omega) (by omega) (by omega) (by omega)
  have hr1 := Lib.hid hr
  have hs1 := Lib.hid hs
  obtain ⟨p0, p1⟩ := B1.out
  have C := Lib.hid (fun w' (k : Gr w w') => refValid_any a a2 n c n d f g w' (by omega) (by omega) (hr.gr k) (hs.gr k))
  rw [vO_iff.2 hv] at C
  have CT1 := Lib.hid (fun w' (k : Gr w w') => Total_any a n c f w' (by omega) (hr.gr k) (fun i hi => by have := hv.noise.ok i hi; omega))
  have CT2 := Lib.hid (fun w' (k : Gr w w') => Total_any a2 n d g w' (by omega) (hs.gr k) (fun i hi => by have := hv.signal.ok i hi; omega))
  have BD := Lib.hid (fun (k : Nat) (hk : k ≤ n) => prs_bd hn hv.noise.ok hv.signal.ok hk)
  have ED := Lib.hid (show 2 * sm g n * sm f n = 2 * (sm f n * sm g n) by rw [Int.mul_assoc, Int.mul_comm (sm g n)])
  have q5 : IntKind.i64.wrap (2 * sm g n) = 2 * sm g n := IntWalk.i64_in _ (by omega)
  have q6 : IntKind.i64.wrap (2 * sm g n * sm f n) = 2 * sm g n * sm f n := by rw [ED.out]; exact IntWalk.i64_in _ (by omega)
  have CX := Lib.hid (fun (x : Int) (h0 : 0 ≤ x) (h1 : x ≤ 1000000000) (w' : World) => Ratio_any x (2 * sm g n * sm f n) w' (Sz.of (by omega) (by omega)) (by rw [ED.out]; exact Sz.of (by omega) (by omega)) (by rw [ED.out]; omega))
  have HA := Lib.hid (fun (i j : Nat) (hi : i < n) (hj : j < n) (w' : World) (k : Gr w w') => ahead_any a a2 n c d f g i j w' hi hj (hr.gr k) (hs.gr k) hv.noise.ok hv.signal.ok)
  unfold prs
  clear hr hs hf hg hv PR PR2 ED SF SG
  generalize sm f n = sf at *
  generalize sm g n = sg at *
  go_enter Try.func23, Try.ntmps23
  go_wp2_with (first
    | (go_at_call 15; (with_reducible refine (C.out _ G0.out).mono ?_); rintro e W1 ⟨rfl, g1⟩; have G1 := Lib.hid (G0.out.trans g1); have B2x := Lib.hid (B2.out.gr g1); have B1x := Lib.hid (B1.out.gr g1); clear p0 p1; obtain ⟨p0, p1⟩ := B1x.out; clear g1))
  go_loopw [4, 5, 6, 7, 8, 16] (fun x _ _ _ _ i wr => ∃ k : Nat, k ≤ n ∧ i = .int .i64 k ∧ x = .int .i64 (sm (fun a => sm (fun b => parN f g a b) n) k) ∧ Hid (Gr W1 wr)) (fun _ _ _ _ _ i _ => n - (intOf i).toNat)
  case atStart => exact ⟨0, by omega, rfl, rfl, Lib.hid (by first | exact Gr.refl _ | exact (Gr.refl _).drew)⟩
  case round =>
    obtain ⟨k, hk, rfl, rfl, HW⟩ := hrel
    by_cases hlt : k < n
    · have hlti : (k : Int) < (n : Int) := by omega
      have GW := Lib.hid (G1.out.trans HW.out)
      obtain ⟨s0, s1⟩ := B1x.out.gr HW.out
      obtain ⟨b6, o6, e6, h6⟩ := (hs1.out.gr GW.out).at hlt
      have c6 := h6 _ hlt
      subst e6
      clear h6
      obtain ⟨⟨x0, x1⟩, BS⟩ := BD.out k hk
      have BS := BS hlt
      have EK := Lib.hid (show sm (fun a => sm (fun b => parN f g a b) n) (k + 1) = sm (fun a => sm (fun b => parN f g a b) n) k + sm (fun b => parN f g k b) n from rfl)
      generalize sm (fun a => sm (fun b => parN f g a b) n) k = pk at *
      go_wp2_with fail
      clear s0 s1 c6
      go_loopw [4, 7, 8, 24] (fun x _ _ i wr' => ∃ j : Nat, j ≤ n ∧ i = .int .i64 j ∧ x = .int .i64 (pk + sm (fun b => parN f g k b) j) ∧ Hid (Gr wr wr')) (fun _ _ _ i _ => n - (intOf i).toNat)
      case atStart => exact ⟨0, by omega, rfl, by simp [sm], Lib.hid (Gr.refl _)⟩
      case round =>
        obtain ⟨j, hj0, rfl, rfl, GJ⟩ := hrel
        have GI := Lib.hid (GW.out.trans GJ.out)
        have GL := Lib.hid (Gr.refl wr)
        by_cases hj : j < n
        · have hji : (j : Int) < (n : Int) := by omega
          have HC1 := Lib.hid (HA.out k j hlt hj)
          have HC2 := Lib.hid (HA.out j k hj hlt)
          obtain ⟨s0, s1⟩ := B1x.out.gr (HW.out.trans GJ.out)
          obtain ⟨b4, o4, e4, h4⟩ := (hr1.out.gr GI.out).at hlt
          have c4 := h4 _ hj
          have f0 := HF.out _ hj
          have g0 := HG.out _ hlt
          obtain ⟨y0, y1⟩ := BS j hj0
          have E3 := Lib.hid (show sm (fun b => parN f g k b) (j + 1) = sm (fun b => parN f g k b) j + parN f g k j from rfl)
          subst e4
          have m1 := mul_bd (a := g k) (b := f j) (A := 1000) (B := 1000) (by omega) (by omega) (by omega) (by omega)
          have m2 := Int.mul_nonneg g0.1 f0.1
          have AS := Lib.hid (show 2 * g k * f j = 2 * (g k * f j) from Int.mul_assoc _ _ _)
          generalize sm (fun b => parN f g k b) j = sj at *
          have q1 : IntKind.i64.wrap (2 * g k) = 2 * g k := IntWalk.i64_in _ (by omega)
          have q2 : IntKind.i64.wrap (2 * g k * f j) = 2 * g k * f j := by rw [AS.out]; exact IntWalk.i64_in _ (by omega)
          have q3 : IntKind.i64.wrap (g k * f j) = g k * f j := IntWalk.i64_in _ (by omega)
          have q4 : IntKind.i64.wrap (pk + sj + 2 * g k * f j) = pk + sj + 2 * g k * f j := by rw [AS.out]; exact IntWalk.i64_in _ (by omega)
          have q7 : IntKind.i64.wrap (pk + sj + g k * f j) = pk + sj + g k * f j := IntWalk.i64_in _ (by omega)
          have v2 := Lib.hid (show wrap64 (2 * g k * f j) = 2 * g k * f j by rw [AS.out]; exact IntWalk.wrap64_in _ (by omega))
          have v3 := Lib.hid (show wrap64 (g k * f j) = g k * f j from IntWalk.wrap64_in _ (by omega))
          have v4 := Lib.hid (show wrap64 (pk + sj + 2 * g k * f j) = pk + sj + 2 * g k * f j by rw [AS.out]; exact IntWalk.wrap64_in _ (by omega))
          have v5 := Lib.hid (show wrap64 (pk + sj + g k * f j) = pk + sj + g k * f j from IntWalk.wrap64_in _ (by omega))
          by_cases h1 : 0 < crs f g k j
          · have P1 := ref_lt h1
            rw [decide_eq_true h1] at HC1
            clear h1 HC2
            clear h4 AS m1 m2
            generalize parN f g k j = pv at *
            generalize f j = fx at *
            generalize g k = gx at *
            go_wp2_with (first
              | (go_at_call 53; (with_reducible refine (HC1.out _ (GI.out.trans GL.out)).mono ?_); rintro e wL ⟨rfl, gL⟩; have GL := Lib.hid (GL.out.trans gL); clear gL s0 s1; obtain ⟨s0, s1⟩ := B1x.out.gr ((HW.out.trans GJ.out).trans GL.out)))
            go_roundw
            case rel => exact ⟨j + 1, hj, by go_num, by rw [E3.out, ← P1]; first | (congr 1; omega) | (rw [v2.out, v4.out]; congr 1; omega) | (rw [v3.out, v5.out]; congr 1; omega), Lib.hid (GJ.out.trans GL.out)⟩
            case measure => simp [intOf]; omega
          · by_cases h2 : 0 < crs f g j k
            · have P1 := ref_gt h1 h2
              rw [decide_eq_false h1] at HC1
              rw [decide_eq_true h2] at HC2
              clear h1 h2
              clear h4 AS m1 m2
              generalize parN f g k j = pv at *
              generalize f j = fx at *
              generalize g k = gx at *
              go_wp2_with (first
                | (go_at_call 53; (with_reducible refine (HC1.out _ (GI.out.trans GL.out)).mono ?_); rintro e wL ⟨rfl, gL⟩; have GL := Lib.hid (GL.out.trans gL); clear gL s0 s1; obtain ⟨s0, s1⟩ := B1x.out.gr ((HW.out.trans GJ.out).trans GL.out))
                | (go_at_call 53; (with_reducible refine (HC2.out _ (GI.out.trans GL.out)).mono ?_); rintro e wL ⟨rfl, gL⟩; have GL := Lib.hid (GL.out.trans gL); clear gL s0 s1; obtain ⟨s0, s1⟩ := B1x.out.gr ((HW.out.trans GJ.out).trans GL.out)))
              go_roundw
              case rel => exact ⟨j + 1, hj, by go_num, by rw [E3.out, P1]; first | (congr 1; omega) | (rw [v2.out, v4.out]; congr 1; omega) | (rw [v3.out, v5.out]; congr 1; omega), Lib.hid (GJ.out.trans GL.out)⟩
              case measure => simp [intOf]; omega
            · have P1 := ref_eq h1 h2
              rw [decide_eq_false h1] at HC1
              rw [decide_eq_false h2] at HC2
              clear h1 h2
              clear h4 AS m1 m2
              generalize parN f g k j = pv at *
              generalize f j = fx at *
              generalize g k = gx at *
              go_wp2_with (first
                | (go_at_call 53; (with_reducible refine (HC1.out _ (GI.out.trans GL.out)).mono ?_); rintro e wL ⟨rfl, gL⟩; have GL := Lib.hid (GL.out.trans gL); clear gL s0 s1; obtain ⟨s0, s1⟩ := B1x.out.gr ((HW.out.trans GJ.out).trans GL.out))
                | (go_at_call 53; (with_reducible refine (HC2.out _ (GI.out.trans GL.out)).mono ?_); rintro e wL ⟨rfl, gL⟩; have GL := Lib.hid (GL.out.trans gL); clear gL s0 s1; obtain ⟨s0, s1⟩ := B1x.out.gr ((HW.out.trans GJ.out).trans GL.out)))
              go_roundw
              case rel => exact ⟨j + 1, hj, by go_num, by rw [E3.out, ← P1]; first | (congr 1; omega) | (rw [v2.out, v4.out]; congr 1; omega) | (rw [v3.out, v5.out]; congr 1; omega), Lib.hid (GJ.out.trans GL.out)⟩
              case measure => simp [intOf]; omega
        · obtain rfl : j = n := by omega
          go_wp2_with fail
          go_roundw
          case rel => exact ⟨k + 1, hlt, by go_num, by rw [EK.out], Lib.hid (HW.out.trans GJ.out)⟩
          case measure => simp [intOf]; omega
    · obtain rfl : k = n := by omega
      obtain ⟨⟨x0, x1'⟩, _⟩ := BD.out k hk
      have x1 : sm (fun a => sm (fun b => parN f g a b) k) k ≤ 1000000000 := by omega
      clear hlt
      obtain ⟨tw, htw⟩ : ∃ tw, sm (fun a => sm (fun b => parN f g a b) k) k = tw := ⟨_, rfl⟩
      rw [htw] at x0 x1 ⊢
      obtain ⟨r0, r1⟩ := B1x.out.gr HW.out
      have B2' := Lib.hid (B2x.out.gr HW.out)
      obtain ⟨k0, k1, k2, k3⟩ := B2'.out
      have GW := Lib.hid (G1.out.trans HW.out)
      have CX' := Lib.hid (fun w' => CX.out _ x0 x1 w')
      go_wp2_with fail
      go_region_held3 (fun w' => w'.cell? ⟨w.heap.size, 0, none⟩ = some (.slice a k c) ∧ w'.cell? ⟨w.heap.size, 1, none⟩ = some (.slice a2 k d))
        (first | exact ⟨r0, r1⟩ | exact ⟨g3.cell r0, g3.cell r1⟩ | go_keep)
        (first
          | (go_at_call 43; (with_reducible refine (CT1.out _ (by first | exact GW.out | exact GW.out.drew)).mono ?_); rintro e w2 ⟨rfl, rfl⟩)
          | (go_at_call 43; (with_reducible refine (CT2.out _ (by first | exact GW.out | exact GW.out.drew)).mono ?_); rintro e w2 ⟨rfl, rfl⟩)
          | (go_at_call 41; (with_reducible refine (CX'.out _).mono ?_); rintro e w3 ⟨rfl, g3⟩; obtain ⟨k0, k1, k2, k3⟩ := (show Box2 w3 (w.heap.size + 1) 0 0 from by first | exact B2'.out.gr g3 | exact B2'.out.drew.gr g3); have G3 := Lib.hid (show Gr w w3 from by first | exact GW.out.trans g3 | exact GW.out.drew.trans g3)))
      obtain ⟨z0, z1, _⟩ := (show Box2 w3 (w.heap.size + 1) 0 0 from ⟨k0, k1, k2, k3⟩).put (x' := rN tw (2 * sg * sf)) (y' := rD tw (2 * sg * sf))
      go_wp2_with fail
      refine bodyPost_ret (v := .tuple #[.agg #[.int .i64 (rN tw (2 * sg * sf)), .int .i64 (rD tw (2 * sg * sf))], .int .i64 0]) (by simp [results, Try.results23, go_sem, z0, z1]) rfl ⟨by first | rfl | (subst htw; rfl), ?_⟩
      repeat (first | exact G3.out | refine Gr.setCell ?_ (by simp; omega) _ | refine Gr.setCell ?_ (by simp) _ | refine Gr.alloc ?_ _ | refine Gr.drewN ?_ _ | refine Gr.drew ?_)

end Go.Proofs.Ytohcnicadbpbbaa
