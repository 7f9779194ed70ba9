/- The walk of WeighFar: it returns true at all odds and cuts. -/
import Derived.Test.YtohcnicadbpbbaaDoorXP
import Derived.Test.YtohcnicadbpbbaaDoorProl
namespace Go.Proofs.YtohcnicadbpbbaaDoor
open Go.RowKit Go.Firn

theorem rN_scale {x y k : Int} (hk : 0 < k) (_hy : 0 < y) : rN (k * x) (k * y) = rN x y ∧ rD (k * x) (k * y) = rD x y := by
  have e : Int.gcd (k * x) (k * y) = k.natAbs * Int.gcd x y := Int.gcd_mul_left ..
  unfold rN rD
  rw [e, show ((k.natAbs * Int.gcd x y : Nat) : Int) = k * (Int.gcd x y : Int) from by rw [Int.natCast_mul]; congr 1; omega]
  exact ⟨Int.mul_ediv_mul_of_pos _ _ hk, Int.mul_ediv_mul_of_pos _ _ hk⟩

set_option maxHeartbeats 16000000 in
set_option maxRecDepth 100000 in
theorem far_core (a b : Option Addr) (n c d : Nat) (f g : Nat → Int) (a3 : Option Addr) (q c3 : Nat) (h : Nat → Int) (w : World) (hr : RdI w a n f) (hs : RdI w b n g) (ht3 : RdI w a3 q h) (hf : ∀ i, 0 ≤ f i) (hg : ∀ i, 0 ≤ g i) (V : VO n n f g) (hq : q ≤ 60) (hT : Tab w) :
    Calls Tryd.prog 5 #[.agg #[.slice a n c, .slice b n d], .slice a3 q c3] w (RetB true w) := by
  have n10 := V.noise.few
  have n1 := V.noise.one
  obtain ⟨X0, hX0⟩ : ∃ X0, w.alloc (.cells #[.slice a n c, .slice b n d] 24) = X0 := ⟨_, rfl⟩
  have G0 := Lib.hid (show Gr w X0 by rw [← hX0]; exact (Gr.refl w).alloc _)
  have BA := Lib.hid (show BoxO X0 w.heap.size (.slice a n c) (.slice b n d) by rw [← hX0]; exact BoxO.new rfl)
  obtain ⟨ba_0, ba_1⟩ := BA.out
  have HL := Lib.hid (fun w1 => Long_any a b n c n d w1)
  rw [lgO_false.2 ⟨by omega, by omega⟩] at HL
  have CV := Lib.hid (fun w1 (k : Gr w w1) => refValid_any a b n c n d f g w1 (by omega) (by omega) (hr.gr k) (hs.gr k))
  rw [vO_iff.2 V] at CV
  have i1 : ¬ (60 : Int) < (q : Int) := by omega
  have i2 : ¬ (q : Int) > 60 := by omega
  have V2 : VO n n g f := ⟨V.signal, V.noise, rfl⟩
  have SS := ap_small V hf hg
  have H1 := Lib.hid (fun w1 (k : Gr w w1) => Apart_ok a b n c d f g w1 (hr.gr k) (hs.gr k) hf hg V)
  have H2 := Lib.hid (fun w1 (k : Gr w w1) => Dearest_ok a b n c d f g 1 1 w1 (hr.gr k) (hs.gr k) V pr_one (hT.gr k))
  have H3 := Lib.hid (fun w1 (k : Gr w w1) => Swapped_ok a b n c d f g w1 (hr.gr k) (hs.gr k) V)
  have H4 := Lib.hid (show ∀ w1, Gr w w1 → ∀ av cv, RdI w1 av (cS n (drB f g n 1 1)).length (nf (cS n (drB f g n 1 1))) → Calls Tryd.prog 10 #[.agg #[.slice a n c, .slice b n d], .slice av (cS n (drB f g n 1 1)).length cv, .agg #[.int .i64 1, .int .i64 1]] w1 (RetRE (rN (apP f g n) (sm f n * sm g n)) (rD (apP f g n) (sm f n * sm g n)) 0 w1) from fun w1 k av cv hx => by
    have t := Gain_ok a b av n c d _ cv f g _ 1 1 w1 (hr.gr k) (hs.gr k) hx V (cS_cut n _) pr_one
    rwa [gnV_onL, show gS f g n 1 1 (drB f g n 1 1) = apP f g n from far_is f g n, S_one] at t)
  have H5 := Lib.hid (show ∀ w1 ax ay (cx cy : Nat), RdI w1 ax n g → RdI w1 ay n f → Calls Tryd.prog 22 #[.agg #[.slice ax n cx, .slice ay n cy]] w1 (RetRE (rN (apP f g n) (sm f n * sm g n)) (rD (apP f g n) (sm f n * sm g n)) 0 w1) from fun w1 ax ay cx cy rx ry => by
    have t := Apart_ok ax ay n cx cy g f w1 rx ry hg hf V2
    rwa [ap_swap, Int.mul_comm (sm g n)] at t)
  have SP := sml_red SS.1 SS.2.1 SS.2.2.1 SS.2.2.2
  have HS := Lib.hid (fun w1 => small_yes _ _ w1 SP)
  have HTF := Lib.hid (fun w1 (k : Gr w w1) => Total_any a n c f w1 (by omega) (hr.gr k) (fun i hi => by have := V.noise.ok i hi; omega))
  have HTG := Lib.hid (fun w1 (k : Gr w w1) => Total_any b n d g w1 (by omega) (hs.gr k) (fun i hi => by have := V.signal.ok i hi; omega))
  have SF := sm_pos_bd V.noise
  have SG := sm_pos_bd V.signal
  have HF := Lib.hid V.noise.ok
  have HG := Lib.hid V.signal.ok
  have hr1 := Lib.hid hr
  have hs1 := Lib.hid hs
  have BD := Lib.hid (fun (k : Nat) (hk : k ≤ n) => aa_bd (f := f) (g := g) (n := n) (sf := sm f n) (sg := sm g n) n10 V.noise.ok V.signal.ok SF SG hk)
  have PR := mul_bd (a := sm f n) (b := sm g n) (A := 10000) (B := 10000) (by omega) (by omega) (by omega) (by omega)
  have PW := wr64 (x := sm f n * sm g n) (by omega)
  have PW2 := wr64 (x := 2 * (sm f n * sm g n)) (by omega)
  have sc := rN_scale (x := apP f g n) (y := sm f n * sm g n) (k := 2) (by omega) SS.1
  have HR := Lib.hid (show ∀ w1, Calls Tryd.prog 26 #[.int .i64 (sm (fun a => max (g a * sm f n - f a * sm g n) (-(g a * sm f n - f a * sm g n))) n), .int .i64 (2 * (sm f n * sm g n))] w1 (RetR (rN (apP f g n) (sm f n * sm g n)) (rD (apP f g n) (sm f n * sm g n)) w1) from fun w1 => by
    have t := Ratio_any (2 * apP f g n) (2 * (sm f n * sm g n)) w1 (Sz.of (by omega) (by omega)) (Sz.of (by omega) (by omega)) (by omega)
    rw [sc.1, sc.2, ← ap_two] at t
    exact t)
  have CI := Lib.hid (fun w1 (k : Gr w w1) => refIsCut_any a a3 n c q c3 (.slice b n d) h w1 (by omega) (ht3.gr k))
  have CG := Lib.hid (show ∀ w1, Gr w w1 → cutB n q h = true → Calls Tryd.prog 10 #[.agg #[.slice a n c, .slice b n d], .slice a3 q c3, .agg #[.int .i64 1, .int .i64 1]] w1 (RetRE (rN (gnV f g n 1 1 h q) (sm f n * sm g n)) (rD (gnV f g n 1 1 h q) (sm f n * sm g n)) 0 w1) from fun w1 k hc => by
    have t := Gain_ok a b a3 n c d q c3 f g h 1 1 w1 (hr.gr k) (hs.gr k) (ht3.gr k) V (cutB_iff.1 hc) pr_one
    rwa [S_one] at t)
  have CS := Lib.hid (show cutB n q h = true → Smn (rN (gnV f g n 1 1 h q) (sm f n * sm g n)) (rD (gnV f g n 1 1 h q) (sm f n * sm g n)) from fun hc => by
    have t := gn_bd (cutB_iff.1 hc) hf hg
    exact red_smn SS.1 SS.2.1 t.1 t.2)
  have CL := Lib.hid (show cutB n q h = true → ∀ w1, Calls Tryd.prog 21 #[.agg #[.int .i64 (rN (apP f g n) (sm f n * sm g n)), .int .i64 (rD (apP f g n) (sm f n * sm g n))], .agg #[.int .i64 (rN (gnV f g n 1 1 h q) (sm f n * sm g n)), .int .i64 (rD (gnV f g n 1 1 h q) (sm f n * sm g n))]] w1 (RetB false w1) from fun hc w1 =>
    less_non _ _ _ _ w1 SP.smn (CS.out hc) (far_not (cutB_iff.1 hc) SS.1))
  clear hr hs ht3 hf hg V V2 SS SP PR sc hT
  generalize rN (apP f g n) (sm f n * sm g n) = P1 at *
  generalize rD (apP f g n) (sm f n * sm g n) = Q1 at *
  generalize rN (gnV f g n 1 1 h q) (sm f n * sm g n) = N3 at *
  generalize rD (gnV f g n 1 1 h q) (sm f n * sm g n) = D3 at *
  generalize cS n (drB f g n 1 1) = L at *
  generalize hAA : (fun a => max (g a * sm f n - f a * sm g n) (-(g a * sm f n - f a * sm g n))) = AA at *
  have EA := Lib.hid (show ∀ k, AA k = max (g k * sm f n - f k * sm g n) (-(g k * sm f n - f k * sm g n)) from fun k => by rw [← hAA])
  clear hAA
  generalize sm f n = sf at *
  generalize sm g n = sg at *
  obtain ⟨pw1, pw2⟩ := PW
  obtain ⟨pw3, pw4⟩ := PW2
  go_enter Tryd.func5, Tryd.ntmps5
  go_wp2_with (first
    | (go_at_call 8; (with_reducible refine (HL.out _).mono ?_); rintro e v1 ⟨rfl, g1⟩; have G1 := Lib.hid (G0.out.trans g1); have BA := Lib.hid (BA.out.gr g1); (try clear ba_0 ba_1); obtain ⟨ba_0, ba_1⟩ := BA.out; clear g1)
    | (go_at_call 17; (with_reducible refine (CV.out _ G1.out).mono ?_); rintro e v2 ⟨rfl, g2⟩; have G2 := Lib.hid (G1.out.trans g2); have BA := Lib.hid (BA.out.gr g2); (try clear ba_0 ba_1); obtain ⟨ba_0, ba_1⟩ := BA.out; have lb2 : w.heap.size < v2.heap.size := World.block_lt_of_cell? v2 _ ba_0; clear g2)
    | (go_at_call 22; (with_reducible refine (H1.out _ (G2.out.alloc _)).mono ?_); rintro e v3 ⟨rfl, g3⟩; have gp3 := ((Gr.refl v2).alloc (.cells #[.int .i64 1, .int .i64 1] 26)).trans g3; have gg := (gp3).alloc (.cells #[.int .i64 P1, .int .i64 Q1] 26); have PB := Lib.hid ((show Box2 (v2.alloc (.cells #[.int .i64 1, .int .i64 1] 26)) v2.heap.size 1 1 from Box2.new rfl).gr (g3.alloc (.cells #[.int .i64 P1, .int .i64 Q1] 26))); obtain ⟨V3, hV3⟩ : ∃ V3, v3.alloc (.cells #[.int .i64 P1, .int .i64 Q1] 26) = V3 := ⟨_, rfl⟩; rw [hV3] at gg PB; have G3 := Lib.hid (G2.out.trans gg); have BA := Lib.hid (BA.out.gr gg); have BX := Lib.hid (show Box2 V3 v3.heap.size P1 Q1 by rw [← hV3]; exact Box2.new rfl); (try clear ba_0 ba_1); obtain ⟨ba_0, ba_1⟩ := BA.out; (try clear bx_0 bx_1); obtain ⟨bx_0, bx_1, _⟩ := BX.out; obtain ⟨pb_0, pb_1, _⟩ := PB.out; clear g3 gg gp3)
    | (go_at_call 12; (with_reducible refine (H2.out _ G3.out).mono ?_); rintro e v4 ⟨a4x, c4x, rfl, _, _, q4, g4⟩; have G4 := Lib.hid (G3.out.trans g4); have BA := Lib.hid (BA.out.gr g4); have BX := Lib.hid (BX.out.gr g4); have PB := Lib.hid (PB.out.gr g4); have LL := Lib.hid (q4); (try clear ba_0 ba_1); obtain ⟨ba_0, ba_1⟩ := BA.out; (try clear bx_0 bx_1); obtain ⟨bx_0, bx_1, _⟩ := BX.out; (try clear pb_0 pb_1); obtain ⟨pb_0, pb_1, _⟩ := PB.out; clear g4)
    | (go_at_call 23; (with_reducible refine (H3.out _ G4.out).mono ?_); rintro e v5 ⟨a5x, c5x, a5y, c5y, rfl, r5, q5, g5⟩; have gg := (g5).alloc (.cells #[.slice a5x n c5x, .slice a5y n c5y] 24); obtain ⟨V5, hV5⟩ : ∃ V5, v5.alloc (.cells #[.slice a5x n c5x, .slice a5y n c5y] 24) = V5 := ⟨_, rfl⟩; rw [hV5] at gg; have G5 := Lib.hid (G4.out.trans gg); have BA := Lib.hid (BA.out.gr gg); have BX := Lib.hid (BX.out.gr gg); have PB := Lib.hid (PB.out.gr gg); have LL := Lib.hid (LL.out.gr gg); have BS := Lib.hid (show Box2v V5 v5.heap.size (.slice a5x n c5x) (.slice a5y n c5y) by rw [← hV5]; exact Box2v.new rfl); have RBS := Lib.hid (show RdI V5 a5x n g by rw [← hV5]; exact r5.gr ((Gr.refl _).alloc _)); have SBS := Lib.hid (show RdI V5 a5y n f by rw [← hV5]; exact q5.gr ((Gr.refl _).alloc _)); (try clear ba_0 ba_1); obtain ⟨ba_0, ba_1⟩ := BA.out; (try clear bx_0 bx_1); obtain ⟨bx_0, bx_1, _⟩ := BX.out; (try clear pb_0 pb_1); obtain ⟨pb_0, pb_1, _⟩ := PB.out; (try clear bs_0 bs_1); obtain ⟨bs_0, bs_1, _⟩ := BS.out; clear g5 gg)
    | (go_at_call 24; (with_reducible refine (HS.out _).mono ?_); rintro e v6 ⟨rfl, g6⟩; have G6 := Lib.hid (G5.out.trans g6); have BA := Lib.hid (BA.out.gr g6); have BX := Lib.hid (BX.out.gr g6); have PB := Lib.hid (PB.out.gr g6); have LL := Lib.hid (LL.out.gr g6); have BS := Lib.hid (BS.out.gr g6); have RBS := Lib.hid (RBS.out.gr g6); have SBS := Lib.hid (SBS.out.gr g6); (try clear ba_0 ba_1); obtain ⟨ba_0, ba_1⟩ := BA.out; (try clear bx_0 bx_1); obtain ⟨bx_0, bx_1, _⟩ := BX.out; (try clear pb_0 pb_1); obtain ⟨pb_0, pb_1, _⟩ := PB.out; (try clear bs_0 bs_1); obtain ⟨bs_0, bs_1, _⟩ := BS.out; clear g6)
    | (go_at_call 10; (with_reducible refine (H4.out _ G6.out _ _ LL.out).mono ?_); rintro e v7 ⟨rfl, g7⟩; have gg := (g7).alloc (.cells #[.int .i64 P1, .int .i64 Q1] 26); obtain ⟨V7, hV7⟩ : ∃ V7, v7.alloc (.cells #[.int .i64 P1, .int .i64 Q1] 26) = V7 := ⟨_, rfl⟩; rw [hV7] at gg; have G7 := Lib.hid (G6.out.trans gg); have BA := Lib.hid (BA.out.gr gg); have BX := Lib.hid (BX.out.gr gg); have PB := Lib.hid (PB.out.gr gg); have LL := Lib.hid (LL.out.gr gg); have BS := Lib.hid (BS.out.gr gg); have RBS := Lib.hid (RBS.out.gr gg); have SBS := Lib.hid (SBS.out.gr gg); have BG := Lib.hid (show Box2 V7 v7.heap.size P1 Q1 by rw [← hV7]; exact Box2.new rfl); (try clear ba_0 ba_1); obtain ⟨ba_0, ba_1⟩ := BA.out; (try clear bx_0 bx_1); obtain ⟨bx_0, bx_1, _⟩ := BX.out; (try clear pb_0 pb_1); obtain ⟨pb_0, pb_1, _⟩ := PB.out; (try clear bs_0 bs_1); obtain ⟨bs_0, bs_1, _⟩ := BS.out; (try clear bg_0 bg_1); obtain ⟨bg_0, bg_1, _⟩ := BG.out; clear g7 gg)
    | (go_at_call 22; (with_reducible refine (H5.out _ _ _ _ _ RBS.out SBS.out).mono ?_); rintro e v8 ⟨rfl, g8⟩; have gg := (g8).alloc (.cells #[.int .i64 P1, .int .i64 Q1] 26); obtain ⟨V8, hV8⟩ : ∃ V8, v8.alloc (.cells #[.int .i64 P1, .int .i64 Q1] 26) = V8 := ⟨_, rfl⟩; rw [hV8] at gg; have G8 := Lib.hid (G7.out.trans gg); have BA := Lib.hid (BA.out.gr gg); have BX := Lib.hid (BX.out.gr gg); have PB := Lib.hid (PB.out.gr gg); have LL := Lib.hid (LL.out.gr gg); have BS := Lib.hid (BS.out.gr gg); have RBS := Lib.hid (RBS.out.gr gg); have SBS := Lib.hid (SBS.out.gr gg); have BG := Lib.hid (BG.out.gr gg); have BH := Lib.hid (show Box2 V8 v8.heap.size P1 Q1 by rw [← hV8]; exact Box2.new rfl); (try clear ba_0 ba_1); obtain ⟨ba_0, ba_1⟩ := BA.out; (try clear bx_0 bx_1); obtain ⟨bx_0, bx_1, _⟩ := BX.out; (try clear pb_0 pb_1); obtain ⟨pb_0, pb_1, _⟩ := PB.out; (try clear bs_0 bs_1); obtain ⟨bs_0, bs_1, _⟩ := BS.out; (try clear bg_0 bg_1); obtain ⟨bg_0, bg_1, _⟩ := BG.out; (try clear bh_0 bh_1); obtain ⟨bh_0, bh_1, _⟩ := BH.out; clear g8 gg))
  have GX := Lib.hid G8.out
  refine (wpIn_wide (n := 3)).1 ?_
  refine wpIn_region_held (fun w' => Gr V8 w') 9 (by kernel_rfl) rfl rfl ?_
  have hS : Gr V8 V8.drew := (Gr.refl V8).drew
  iterate 4 (first
    | (refine wpAnyHIn_take 0 (v := ?_) rfl (by kernel_rfl) (by kernel_rfl) (by kernel_rfl) (by decide +kernel) (fun _ _ _ h => h) (fun _ _ _ => trivial) (by rfl) (fun w' hSw => ?_) hS ?_; rotate_left 1; (focus (have z0 := hSw.cell ba_0; have z1 := hSw.cell ba_1; go_simp; try with_reducible rfl)); simp only [Act.put, List.setIfInBounds_toArray, List.set_cons_zero, List.set_cons_succ])
    | (refine wpAnyHIn_take 1 (v := ?_) rfl (by kernel_rfl) (by kernel_rfl) (by kernel_rfl) (by decide +kernel) (fun _ _ _ h => h) (fun _ _ _ => trivial) (by rfl) (fun w' hSw => ?_) hS ?_; rotate_left 1; (focus (have z0 := hSw.cell ba_0; have z1 := hSw.cell ba_1; go_simp; try with_reducible rfl)); simp only [Act.put, List.setIfInBounds_toArray, List.set_cons_zero, List.set_cons_succ])
    | (refine wpAnyHIn_take 3 (v := ?_) rfl (by kernel_rfl) (by kernel_rfl) (by kernel_rfl) (by decide +kernel) (fun _ _ _ h => h) (fun _ _ _ => trivial) (by rfl) (fun w' hSw => ?_) hS ?_; rotate_left 1; (focus (have z0 := hSw.cell ba_0; have z1 := hSw.cell ba_1; go_simp; try with_reducible rfl)); simp only [Act.put, List.setIfInBounds_toArray, List.set_cons_zero, List.set_cons_succ])
    | (refine wpAnyHIn_take 4 (v := ?_) rfl (by kernel_rfl) (by kernel_rfl) (by kernel_rfl) (by decide +kernel) (fun _ _ _ h => h) (fun _ _ _ => trivial) (by rfl) (fun w' hSw => ?_) hS ?_; rotate_left 1; (focus (have z0 := hSw.cell ba_0; have z1 := hSw.cell ba_1; go_simp; try with_reducible rfl)); simp only [Act.put, List.setIfInBounds_toArray, List.set_cons_zero, List.set_cons_succ]))
  refine wpAnyHIn_ready [2] (by kernel_rfl) (by simp) ?_
  refine AllHIn.cons rfl (by rfl) (fun K hK => ?_) AllHIn.nil
  go_simp
  refine ⟨trivial, ?_⟩
  refine (callsIn_wide.2 (HTF.out _ (G8.out.trans hS))).mono ?_
  rintro e wX ⟨rfl, rfl⟩
  refine hK.out _ _ hS ?_
  clear hK K
  refine wpAnyHIn_ready [5] (by kernel_rfl) (by simp) ?_
  refine AllHIn.cons rfl (by rfl) (fun K hK => ?_) AllHIn.nil
  go_simp
  refine ⟨trivial, ?_⟩
  refine (callsIn_wide.2 (HTG.out _ (G8.out.trans hS))).mono ?_
  rintro e wX ⟨rfl, rfl⟩
  refine hK.out _ _ hS ?_
  clear hK K
  iterate 3 (first
    | (refine wpAnyHIn_take 6 (v := ?_) rfl (by kernel_rfl) (by kernel_rfl) (by kernel_rfl) (by decide +kernel) (fun _ _ _ h => h) (fun _ _ _ => trivial) (by rfl) (fun w' hSw => ?_) hS ?_; rotate_left 1; (focus (skip; go_simp; try with_reducible rfl)); simp only [Act.put, List.setIfInBounds_toArray, List.set_cons_zero, List.set_cons_succ])
    | (refine wpAnyHIn_take 7 (v := ?_) rfl (by kernel_rfl) (by kernel_rfl) (by kernel_rfl) (by decide +kernel) (fun _ _ _ h => h) (fun _ _ _ => trivial) (by rfl) (fun w' hSw => ?_) hS ?_; rotate_left 1; (focus (skip; go_simp; try with_reducible rfl)); simp only [Act.put, List.setIfInBounds_toArray, List.set_cons_zero, List.set_cons_succ])
    | (refine wpAnyHIn_take 8 (v := ?_) rfl (by kernel_rfl) (by kernel_rfl) (by kernel_rfl) (by decide +kernel) (fun _ _ _ h => h) (fun _ _ _ => trivial) (by rfl) (fun w' hSw => ?_) hS ?_; rotate_left 1; (focus (skip; go_simp; try with_reducible rfl)); simp only [Act.put, List.setIfInBounds_toArray, List.set_cons_zero, List.set_cons_succ]))
  refine wpAnyHIn_done (by kernel_rfl) ?_ _
  go_wp2_with fail
  go_loopw [14, 103] (fun t i wr => ∃ k : Nat, k ≤ n ∧ i = .int .i64 k ∧ t = .int .i64 (sm AA k) ∧ Hid (Gr V8 wr)) (fun _ i _ => n - (intOf i).toNat)
  case atStart => exact ⟨0, by omega, rfl, rfl, Lib.hid (by first | exact hS | exact hS.drew | exact Gr.refl _)⟩
  case round =>
    obtain ⟨k, hk, rfl, rfl, HW⟩ := hrel
    have GR := Lib.hid (G8.out.trans HW.out)
    have BAr := Lib.hid (BA.out.gr HW.out)
    have BXr := Lib.hid (BX.out.gr HW.out)
    have PBr := Lib.hid (PB.out.gr HW.out)
    clear ba_0 ba_1 bx_0 bx_1 pb_0 pb_1 bs_0 bs_1 bg_0 bg_1 bh_0 bh_1
    obtain ⟨ba_0, ba_1⟩ := BAr.out
    by_cases hlt : k < n
    · have hlti : (k : Int) < (n : Int) := by omega
      obtain ⟨b4, o4, e4, h4⟩ := (hr1.out.gr GR.out).at hlt
      obtain ⟨b5, o5, e5, h5⟩ := (hs1.out.gr GR.out).at hlt
      have c4 := h4 _ hlt
      have c5 := h5 _ hlt
      have f0 := HF.out _ hlt
      have g0 := HG.out _ hlt
      obtain ⟨x0, x1⟩ := BD.out k hk
      obtain ⟨x2, x3⟩ := BD.out (k + 1) hlt
      have E1 : sm AA (k + 1) = sm AA k + AA k := rfl
      have E2 := EA.out k
      rw [E1] at x2 x3
      have E1 := Lib.hid E1
      subst e4
      subst e5
      clear h4 h5
      generalize sm AA k = tw at *
      generalize AA k = ak at *
      generalize f k = fx at *
      generalize g k = gx at *
      have m1 := mul_bd (a := gx) (b := sf) (A := 1000) (B := 10000) (by omega) (by omega) (by omega) (by omega)
      have m2 := mul_bd (a := fx) (b := sg) (A := 1000) (B := 10000) (by omega) (by omega) (by omega) (by omega)
      obtain ⟨q1, q2⟩ := wr64 (x := gx * sf) (by omega)
      obtain ⟨q3, q4⟩ := wr64 (x := fx * sg) (by omega)
      obtain ⟨q5, q6⟩ := wr64 (x := gx * sf - fx * sg) (by omega)
      obtain ⟨q7, q8⟩ := wr64 (x := -(gx * sf - fx * sg)) (by omega)
      obtain ⟨q9, q10⟩ := wr64 (x := tw + max (gx * sf - fx * sg) (-(gx * sf - fx * sg))) (by omega)
      have E2 := Lib.hid E2
      clear x0 x1 x2 x3 m1 m2 f0 g0
      go_wp2_with fail
      refine (wpIn_wide (n := 3)).1 ?_
      refine wpIn_region_held (fun w' => Gr wr w') 16 (by kernel_rfl) rfl rfl ?_
      have hS : Gr wr wr.drew := (Gr.refl wr).drew
      iterate 10 (first
        | (refine wpAnyHIn_take 0 (v := ?_) rfl (by kernel_rfl) (by kernel_rfl) (by kernel_rfl) (by decide +kernel) (fun _ _ _ h => h) (fun _ _ _ => trivial) (by rfl) (fun w' hSw => ?_) hS ?_; rotate_left 1; (focus (have z0 := hSw.cell ba_0; have z1 := hSw.cell ba_1; have z2 := hSw.cell c4; have z3 := hSw.cell c5; go_simp; try with_reducible rfl)); simp only [Act.put, List.setIfInBounds_toArray, List.set_cons_zero, List.set_cons_succ])
        | (refine wpAnyHIn_take 1 (v := ?_) rfl (by kernel_rfl) (by kernel_rfl) (by kernel_rfl) (by decide +kernel) (fun _ _ _ h => h) (fun _ _ _ => trivial) (by rfl) (fun w' hSw => ?_) hS ?_; rotate_left 1; (focus (have z0 := hSw.cell ba_0; have z1 := hSw.cell ba_1; have z2 := hSw.cell c4; have z3 := hSw.cell c5; go_simp; try with_reducible rfl)); simp only [Act.put, List.setIfInBounds_toArray, List.set_cons_zero, List.set_cons_succ])
        | (refine wpAnyHIn_take 2 (v := ?_) rfl (by kernel_rfl) (by kernel_rfl) (by kernel_rfl) (by decide +kernel) (fun _ _ _ h => h) (fun _ _ _ => trivial) (by rfl) (fun w' hSw => ?_) hS ?_; rotate_left 1; (focus (have z0 := hSw.cell ba_0; have z1 := hSw.cell ba_1; have z2 := hSw.cell c4; have z3 := hSw.cell c5; go_simp; try with_reducible rfl)); simp only [Act.put, List.setIfInBounds_toArray, List.set_cons_zero, List.set_cons_succ])
        | (refine wpAnyHIn_take 3 (v := ?_) rfl (by kernel_rfl) (by kernel_rfl) (by kernel_rfl) (by decide +kernel) (fun _ _ _ h => h) (fun _ _ _ => trivial) (by rfl) (fun w' hSw => ?_) hS ?_; rotate_left 1; (focus (have z0 := hSw.cell ba_0; have z1 := hSw.cell ba_1; have z2 := hSw.cell c4; have z3 := hSw.cell c5; go_simp; try with_reducible rfl)); simp only [Act.put, List.setIfInBounds_toArray, List.set_cons_zero, List.set_cons_succ])
        | (refine wpAnyHIn_take 4 (v := ?_) rfl (by kernel_rfl) (by kernel_rfl) (by kernel_rfl) (by decide +kernel) (fun _ _ _ h => h) (fun _ _ _ => trivial) (by rfl) (fun w' hSw => ?_) hS ?_; rotate_left 1; (focus (have z0 := hSw.cell ba_0; have z1 := hSw.cell ba_1; have z2 := hSw.cell c4; have z3 := hSw.cell c5; go_simp; try with_reducible rfl)); simp only [Act.put, List.setIfInBounds_toArray, List.set_cons_zero, List.set_cons_succ])
        | (refine wpAnyHIn_take 5 (v := ?_) rfl (by kernel_rfl) (by kernel_rfl) (by kernel_rfl) (by decide +kernel) (fun _ _ _ h => h) (fun _ _ _ => trivial) (by rfl) (fun w' hSw => ?_) hS ?_; rotate_left 1; (focus (have z0 := hSw.cell ba_0; have z1 := hSw.cell ba_1; have z2 := hSw.cell c4; have z3 := hSw.cell c5; go_simp; try with_reducible rfl)); simp only [Act.put, List.setIfInBounds_toArray, List.set_cons_zero, List.set_cons_succ])
        | (refine wpAnyHIn_take 6 (v := ?_) rfl (by kernel_rfl) (by kernel_rfl) (by kernel_rfl) (by decide +kernel) (fun _ _ _ h => h) (fun _ _ _ => trivial) (by rfl) (fun w' hSw => ?_) hS ?_; rotate_left 1; (focus (have z0 := hSw.cell ba_0; have z1 := hSw.cell ba_1; have z2 := hSw.cell c4; have z3 := hSw.cell c5; go_simp; try with_reducible rfl)); simp only [Act.put, List.setIfInBounds_toArray, List.set_cons_zero, List.set_cons_succ])
        | (refine wpAnyHIn_take 9 (v := ?_) rfl (by kernel_rfl) (by kernel_rfl) (by kernel_rfl) (by decide +kernel) (fun _ _ _ h => h) (fun _ _ _ => trivial) (by rfl) (fun w' hSw => ?_) hS ?_; rotate_left 1; (focus (have z0 := hSw.cell ba_0; have z1 := hSw.cell ba_1; have z2 := hSw.cell c4; have z3 := hSw.cell c5; go_simp; try with_reducible rfl)); simp only [Act.put, List.setIfInBounds_toArray, List.set_cons_zero, List.set_cons_succ])
        | (refine wpAnyHIn_take 10 (v := ?_) rfl (by kernel_rfl) (by kernel_rfl) (by kernel_rfl) (by decide +kernel) (fun _ _ _ h => h) (fun _ _ _ => trivial) (by rfl) (fun w' hSw => ?_) hS ?_; rotate_left 1; (focus (have z0 := hSw.cell ba_0; have z1 := hSw.cell ba_1; have z2 := hSw.cell c4; have z3 := hSw.cell c5; go_simp; try with_reducible rfl)); simp only [Act.put, List.setIfInBounds_toArray, List.set_cons_zero, List.set_cons_succ])
        | (refine wpAnyHIn_take 11 (v := ?_) rfl (by kernel_rfl) (by kernel_rfl) (by kernel_rfl) (by decide +kernel) (fun _ _ _ h => h) (fun _ _ _ => trivial) (by rfl) (fun w' hSw => ?_) hS ?_; rotate_left 1; (focus (have z0 := hSw.cell ba_0; have z1 := hSw.cell ba_1; have z2 := hSw.cell c4; have z3 := hSw.cell c5; go_simp; try with_reducible rfl)); simp only [Act.put, List.setIfInBounds_toArray, List.set_cons_zero, List.set_cons_succ]))
      refine wpAnyHIn_ready [7] (by kernel_rfl) (by simp) ?_
      refine AllHIn.cons rfl (by rfl) (fun K hK => ?_) AllHIn.nil
      go_simp
      refine ⟨trivial, ?_⟩
      refine (callsIn_wide.2 (HTF.out _ (GR.out.trans hS))).mono ?_
      rintro e wX ⟨rfl, rfl⟩
      refine hK.out _ _ hS ?_
      clear hK K
      iterate 1 (first
        | (refine wpAnyHIn_take 8 (v := ?_) rfl (by kernel_rfl) (by kernel_rfl) (by kernel_rfl) (by decide +kernel) (fun _ _ _ h => h) (fun _ _ _ => trivial) (by rfl) (fun w' hSw => ?_) hS ?_; rotate_left 1; (focus (skip; go_simp; try with_reducible rfl)); simp only [Act.put, List.setIfInBounds_toArray, List.set_cons_zero, List.set_cons_succ]))
      refine wpAnyHIn_ready [12] (by kernel_rfl) (by simp) ?_
      refine AllHIn.cons rfl (by rfl) (fun K hK => ?_) AllHIn.nil
      go_simp
      refine ⟨trivial, ?_⟩
      refine (callsIn_wide.2 (HTG.out _ (GR.out.trans hS))).mono ?_
      rintro e wX ⟨rfl, rfl⟩
      refine hK.out _ _ hS ?_
      clear hK K
      iterate 3 (first
        | (refine wpAnyHIn_take 13 (v := ?_) rfl (by kernel_rfl) (by kernel_rfl) (by kernel_rfl) (by decide +kernel) (fun _ _ _ h => h) (fun _ _ _ => trivial) (by rfl) (fun w' hSw => ?_) hS ?_; rotate_left 1; (focus (skip; go_simp; try with_reducible rfl)); simp only [Act.put, List.setIfInBounds_toArray, List.set_cons_zero, List.set_cons_succ])
        | (refine wpAnyHIn_take 14 (v := ?_) rfl (by kernel_rfl) (by kernel_rfl) (by kernel_rfl) (by decide +kernel) (fun _ _ _ h => h) (fun _ _ _ => trivial) (by rfl) (fun w' hSw => ?_) hS ?_; rotate_left 1; (focus (skip; go_simp; try with_reducible rfl)); simp only [Act.put, List.setIfInBounds_toArray, List.set_cons_zero, List.set_cons_succ])
        | (refine wpAnyHIn_take 15 (v := ?_) rfl (by kernel_rfl) (by kernel_rfl) (by kernel_rfl) (by decide +kernel) (fun _ _ _ h => h) (fun _ _ _ => trivial) (by rfl) (fun w' hSw => ?_) hS ?_; rotate_left 1; (focus (skip; go_simp; try with_reducible rfl)); simp only [Act.put, List.setIfInBounds_toArray, List.set_cons_zero, List.set_cons_succ]))
      refine wpAnyHIn_done (by kernel_rfl) ?_ _
      go_wp2_with fail
      go_roundw
      case rel => exact ⟨k + 1, by omega, by go_num, by rw [E1.out, E2.out], Lib.hid (HW.out.trans hS)⟩
      case measure => simp [intOf]; omega
    · have nl : ¬ (k : Int) < (n : Int) := by omega
      obtain rfl : k = n := by omega
      obtain ⟨bx_0, bx_1, _⟩ := BXr.out
      obtain ⟨pb_0, pb_1, _⟩ := PBr.out
      go_wp2_with fail
      refine (wpIn_wide (n := 3)).1 ?_
      refine wpIn_region_held (fun w' => Gr wr w') 6 (by kernel_rfl) rfl rfl ?_
      have hS : Gr wr wr.drew := (Gr.refl wr).drew
      iterate 4 (first
        | (refine wpAnyHIn_take 0 (v := ?_) rfl (by kernel_rfl) (by kernel_rfl) (by kernel_rfl) (by decide +kernel) (fun _ _ _ h => h) (fun _ _ _ => trivial) (by rfl) (fun w' hSw => ?_) hS ?_; rotate_left 1; (focus (have z0 := hSw.cell bx_0; have z1 := hSw.cell bx_1; go_simp; try with_reducible rfl)); simp only [Act.put, List.setIfInBounds_toArray, List.set_cons_zero, List.set_cons_succ])
        | (refine wpAnyHIn_take 1 (v := ?_) rfl (by kernel_rfl) (by kernel_rfl) (by kernel_rfl) (by decide +kernel) (fun _ _ _ h => h) (fun _ _ _ => trivial) (by rfl) (fun w' hSw => ?_) hS ?_; rotate_left 1; (focus (have z0 := hSw.cell bx_0; have z1 := hSw.cell bx_1; go_simp; try with_reducible rfl)); simp only [Act.put, List.setIfInBounds_toArray, List.set_cons_zero, List.set_cons_succ])
        | (refine wpAnyHIn_take 2 (v := ?_) rfl (by kernel_rfl) (by kernel_rfl) (by kernel_rfl) (by decide +kernel) (fun _ _ _ h => h) (fun _ _ _ => trivial) (by rfl) (fun w' hSw => ?_) hS ?_; rotate_left 1; (focus (have z0 := hSw.cell bx_0; have z1 := hSw.cell bx_1; go_simp; try with_reducible rfl)); simp only [Act.put, List.setIfInBounds_toArray, List.set_cons_zero, List.set_cons_succ])
        | (refine wpAnyHIn_take 4 (v := ?_) rfl (by kernel_rfl) (by kernel_rfl) (by kernel_rfl) (by decide +kernel) (fun _ _ _ h => h) (fun _ _ _ => trivial) (by rfl) (fun w' hSw => ?_) hS ?_; rotate_left 1; (focus (have z0 := hSw.cell bx_0; have z1 := hSw.cell bx_1; go_simp; try with_reducible rfl)); simp only [Act.put, List.setIfInBounds_toArray, List.set_cons_zero, List.set_cons_succ]))
      refine wpAnyHIn_ready [3] (by kernel_rfl) (by simp) ?_
      refine AllHIn.cons rfl (by rfl) (fun K hK => ?_) AllHIn.nil
      go_simp
      refine ⟨trivial, ?_⟩
      refine (callsIn_wide.2 (HR.out _)).mono ?_
      rintro e wX ⟨rfl, gX⟩
      have hS : Gr wr wX := hS.trans gX
      refine hK.out _ _ hS ?_
      clear hK K gX
      iterate 1 (first
        | (refine wpAnyHIn_take 5 (v := ?_) rfl (by kernel_rfl) (by kernel_rfl) (by kernel_rfl) (by decide +kernel) (fun _ _ _ h => h) (fun _ _ _ => trivial) (by rfl) (fun w' hSw => ?_) hS ?_; rotate_left 1; (focus (have z0 := hSw.cell bx_0; have z1 := hSw.cell bx_1; go_simp; try with_reducible rfl)); simp only [Act.put, List.setIfInBounds_toArray, List.set_cons_zero, List.set_cons_succ]))
      refine wpAnyHIn_done (by kernel_rfl) ?_ _
      obtain ⟨W0, hW0⟩ : ∃ W0 : World, W0 = wX := ⟨_, rfl⟩
      have G0' := Lib.hid (GR.out.trans hS)
      have BA := Lib.hid (BAr.out.gr hS)
      have BX := Lib.hid (BXr.out.gr hS)
      have PB := Lib.hid (PBr.out.gr hS)
      clear ba_0 ba_1 bx_0 bx_1 pb_0 pb_1
      obtain ⟨ba_0, ba_1⟩ := BA.out
      obtain ⟨bx_0, bx_1, _⟩ := BX.out
      obtain ⟨pb_0, pb_1, _⟩ := PB.out
      rw [← hW0] at *
      have G0 := G0'
      cases hc : cutB k q h with
      | false =>
        rw [hc] at CI
        go_wp2_with (first
          | (go_at_call 18; (with_reducible refine (CI.out _ G0.out).mono ?_); rintro e v1 ⟨rfl, g1⟩; have G1 := Lib.hid (G0.out.trans g1); have BA := Lib.hid (BA.out.gr g1); have BX := Lib.hid (BX.out.gr g1); have PB := Lib.hid (PB.out.gr g1); (try clear ba_0 ba_1); obtain ⟨ba_0, ba_1⟩ := BA.out; (try clear bx_0 bx_1); obtain ⟨bx_0, bx_1, _⟩ := BX.out; (try clear pb_0 pb_1); obtain ⟨pb_0, pb_1, _⟩ := PB.out; clear g1)
          | (go_at_call 9; refine (Awake_any _).mono ?_; rintro e w9 ⟨rfl, g9⟩))
        go_ret
        exact ⟨rfl, G1.out.trans g9⟩
      | true =>
        rw [hc] at CI
        obtain ⟨y0, y1, y2, y3⟩ := CS.out hc
        go_wp2_with (first
          | (go_at_call 18; (with_reducible refine (CI.out _ G0.out).mono ?_); rintro e v1 ⟨rfl, g1⟩; have G1 := Lib.hid (G0.out.trans g1); have BA := Lib.hid (BA.out.gr g1); have BX := Lib.hid (BX.out.gr g1); have PB := Lib.hid (PB.out.gr g1); (try clear ba_0 ba_1); obtain ⟨ba_0, ba_1⟩ := BA.out; (try clear bx_0 bx_1); obtain ⟨bx_0, bx_1, _⟩ := BX.out; (try clear pb_0 pb_1); obtain ⟨pb_0, pb_1, _⟩ := PB.out; clear g1)
          | (go_at_call 10; (with_reducible refine (CG.out _ G1.out hc).mono ?_); rintro e v2 ⟨rfl, g2⟩; have gg := (g2).alloc (.cells #[.int .i64 N3, .int .i64 D3] 26); obtain ⟨V2, hV2⟩ : ∃ V2, v2.alloc (.cells #[.int .i64 N3, .int .i64 D3] 26) = V2 := ⟨_, rfl⟩; rw [hV2] at gg; have G2 := Lib.hid (G1.out.trans gg); have BA := Lib.hid (BA.out.gr gg); have BX := Lib.hid (BX.out.gr gg); have PB := Lib.hid (PB.out.gr gg); have BM := Lib.hid (show Box2 V2 v2.heap.size N3 D3 by rw [← hV2]; exact Box2.new rfl); (try clear ba_0 ba_1); obtain ⟨ba_0, ba_1⟩ := BA.out; (try clear bx_0 bx_1); obtain ⟨bx_0, bx_1, _⟩ := BX.out; (try clear pb_0 pb_1); obtain ⟨pb_0, pb_1, _⟩ := PB.out; (try clear bm_0 bm_1); obtain ⟨bm_0, bm_1, _⟩ := BM.out; clear g2 gg)
          | (go_at_call 21; (with_reducible refine (CL.out hc _).mono ?_); rintro e v3 ⟨rfl, g3⟩; have G3 := Lib.hid (G2.out.trans g3); have BA := Lib.hid (BA.out.gr g3); have BX := Lib.hid (BX.out.gr g3); have PB := Lib.hid (PB.out.gr g3); have BM := Lib.hid (BM.out.gr g3); (try clear ba_0 ba_1); obtain ⟨ba_0, ba_1⟩ := BA.out; (try clear bx_0 bx_1); obtain ⟨bx_0, bx_1, _⟩ := BX.out; (try clear pb_0 pb_1); obtain ⟨pb_0, pb_1, _⟩ := PB.out; (try clear bm_0 bm_1); obtain ⟨bm_0, bm_1, _⟩ := BM.out; clear g3)
          | (go_at_call 9; refine (Awake_any _).mono ?_; rintro e w9 ⟨rfl, g9⟩))
        go_ret
        exact ⟨rfl, G3.out.trans g9⟩

set_option maxHeartbeats 16000000 in
set_option maxRecDepth 100000 in
theorem far_walk (a b : Option Addr) (n c m d : Nat) (f g : Nat → Int) (a3 : Option Addr) (q c3 : Nat) (h : Nat → Int) (w : World) (_hn : n ≤ 9223372036854775807) (_hm : m ≤ 9223372036854775807) (_nc : n ≤ c) (_cl : c ≤ maxLen) (_md : m ≤ d) (_dl : d ≤ maxLen) (_fz : ∀ i, n ≤ i → f i = 0) (_gz : ∀ i, m ≤ i → g i = 0) (hr : RdI w a n f) (hs : RdI w b m g) (_hq3 : q ≤ 9223372036854775807) (_qc3 : q ≤ c3) (_cl3 : c3 ≤ maxLen) (ht3 : RdI w a3 q h) (hT : Tab w) :
    Calls Tryd.prog 5 #[.agg #[.slice a n c, .slice b m d], .slice a3 q c3] w (RetB true w) := by
  obtain ⟨X0, hX0⟩ : ∃ X0, w.alloc (.cells #[.slice a n c, .slice b m d] 24) = X0 := ⟨_, rfl⟩
  have G0 := Lib.hid (show Gr w X0 by rw [← hX0]; exact (Gr.refl w).alloc _)
  have BA := Lib.hid (show BoxO X0 w.heap.size (.slice a n c) (.slice b m d) by rw [← hX0]; exact BoxO.new rfl)
  obtain ⟨ba_0, ba_1⟩ := BA.out
  have HL := Lib.hid (fun w1 => Long_any a b n c m d w1)
  clear _hn _hm _nc _cl _md _dl _qc3 _cl3 _hq3
  by_cases l0 : lgO n m = true
  · rw [l0] at HL
    clear hr hs l0 ht3 hT _fz _gz
    go_enter Tryd.func5, Tryd.ntmps5
    go_wp2_with (first
      | (go_at_call 8; (with_reducible refine (HL.out _).mono ?_); rintro e v1 ⟨rfl, g1⟩; have G1 := Lib.hid (G0.out.trans g1); have BA := Lib.hid (BA.out.gr g1); (try clear ba_0 ba_1); obtain ⟨ba_0, ba_1⟩ := BA.out; clear g1)
      | (go_at_call 9; refine (Awake_any _).mono ?_; rintro e w9 ⟨rfl, g9⟩))
    go_ret
    exact ⟨rfl, G1.out.trans g9⟩
  rw [Bool.not_eq_true] at l0
  rw [l0] at HL
  have l60 := lgO_false.1 l0
  by_cases hq : 60 < q
  · have i1 : (60 : Int) < (q : Int) := by omega
    have i2 : (q : Int) > 60 := by omega
    clear hr hs l0 ht3 hT _fz _gz l60
    go_enter Tryd.func5, Tryd.ntmps5
    go_wp2_with (first
      | (go_at_call 8; (with_reducible refine (HL.out _).mono ?_); rintro e v1 ⟨rfl, g1⟩; have G1 := Lib.hid (G0.out.trans g1); have BA := Lib.hid (BA.out.gr g1); (try clear ba_0 ba_1); obtain ⟨ba_0, ba_1⟩ := BA.out; clear g1)
      | (go_at_call 9; refine (Awake_any _).mono ?_; rintro e w9 ⟨rfl, g9⟩))
    go_ret
    exact ⟨rfl, G1.out.trans g9⟩
  have i1 : ¬ (60 : Int) < (q : Int) := by omega
  have i2 : ¬ (q : Int) > 60 := by omega
  have CV := Lib.hid (fun w1 (k : Gr w w1) => refValid_any a b n c m d f g w1 (by omega) (by omega) (hr.gr k) (hs.gr k))
  cases hv : vO n m f g with
  | false =>
    rw [hv] at CV
    clear hr hs l0 ht3 hT _fz _gz l60 hq hv
    go_enter Tryd.func5, Tryd.ntmps5
    go_wp2_with (first
      | (go_at_call 8; (with_reducible refine (HL.out _).mono ?_); rintro e v1 ⟨rfl, g1⟩; have G1 := Lib.hid (G0.out.trans g1); have BA := Lib.hid (BA.out.gr g1); (try clear ba_0 ba_1); obtain ⟨ba_0, ba_1⟩ := BA.out; clear g1)
      | (go_at_call 17; (with_reducible refine (CV.out _ G1.out).mono ?_); rintro e v2 ⟨rfl, g2⟩; have G2 := Lib.hid (G1.out.trans g2); have BA := Lib.hid (BA.out.gr g2); (try clear ba_0 ba_1); obtain ⟨ba_0, ba_1⟩ := BA.out; clear g2)
      | (go_at_call 9; refine (Awake_any _).mono ?_; rintro e w9 ⟨rfl, g9⟩))
    go_ret
    exact ⟨rfl, G2.out.trans g9⟩
  | true =>
  have V := vO_iff.1 hv
  obtain rfl := V.same
  exact far_core a b n c d f g a3 q c3 h w hr hs ht3 (nn_all2 V.noise _fz) (nn_all2 V.signal _gz) V (by omega) hT

end Go.Proofs.YtohcnicadbpbbaaDoor
