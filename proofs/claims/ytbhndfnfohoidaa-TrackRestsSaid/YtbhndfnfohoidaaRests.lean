/- Proved: TrackRests returns true at all points and every line, and its arguments read afterwards as before. Conditions: none. -/
import Derived.Test.YtbhndfnfohoidaaW12
import Derived.Test.YtbhndfnfohoidaaW18
import Derived.Test.YtbhndfnfohoidaaW19
import Derived.Test.YtbhndfnfohoidaaW20
import Derived.Test.YtbhndfnfohoidaaW21
import Derived.Deep.RegionHeld3
import Derived.ProofKit
import Derived.OpenShut
import Derived.ShutString
import Derived.ChangeOld
import Derived.Below
namespace Go.Proofs.Ytbhndfnfohoidaa.trackRests
open Go.ChangeShapes Go.WideShapes Go.ChangeAt Go.RowKit Go.Firn
open Go.ChangeMaps (open_string shut_string)

theorem own : ownKnob Try.prog.godebug = none := by kernel_rfl
theorem laidOut : laidOutB Try.prog = true := by kernel_rfl

set_option maxHeartbeats 2000000 in
set_option maxRecDepth 100000 in
theorem walk (a : Option Addr) (n c : Nat) (X Y : Nat → Int) (A B D : Int) (w : World) (hn : n ≤ 9223372036854775807) (hr : RdM w a n X Y) :
    Calls Try.prog 5 #[.slice a n c, .agg #[.int .i64 A, .int .i64 B, .int .i64 D]] w (RetB true w) := by
  have HL := Lib.hid (fun w1 => Long_any a n c w1 hn)
  obtain ⟨W0, hW0⟩ : ∃ W0, (w.alloc (.cells #[.int .i64 A, .int .i64 B, .int .i64 D] 37)) = W0 := ⟨_, rfl⟩
  have G0 := Lib.hid (show Gr w W0 by rw [← hW0]; exact (Gr.refl w).alloc _)
  have B3 := Lib.hid (show Box3 W0 w.heap.size A B D by rw [← hW0]; exact Box3.new rfl)
  obtain ⟨l0, l1, l2, f0, f1, f2⟩ := B3.out
  by_cases h1 : 60 < n
  · have e1 : decide (60 < n) = true := by simpa using h1
    rw [e1] at HL
    clear e1
    go_enter Try.func5, Try.ntmps5
    go_wp2_with (first
      | (go_at_call 15; refine (HL.out _).mono ?_; rintro e w' ⟨rfl, rfl⟩)
      | (go_at_call 16; refine (Awake_any _).mono ?_; rintro e w6 ⟨rfl, hg11⟩))
    go_ret
    exact ⟨rfl, G0.out.trans hg11⟩
  have e1 : decide (60 < n) = false := by simpa using h1
  rw [e1] at HL
  have n60 : n ≤ 1000 := by omega
  have H1 := Lib.hid (fun w1 (g : Gr w w1) => Rests_any a n c X Y A B D w1 n60 (hr.gr g))
  have H2 := Lib.hid (fun w1 (g : Gr w w1) => refRests_any a n c X Y A B D w1 n60 (hr.gr g))
  have V1 := Lib.hid (fun w1 (g : Gr w w1) => Valid_any a n c X Y w1 n60 (hr.gr g))
  have V2 := Lib.hid (fun w1 (g : Gr w w1) => refValid_any a n c X Y w1 n60 (hr.gr g))
  have L1 := Lib.hid (fun w1 => ValidLine_any A B D w1)
  have L2 := Lib.hid (fun w1 => refValidLine_any A B D w1)
  have C3 := Lib.hid (fun w1 (g : Gr w w1) => Cost_any a n c X Y A B D w1 n60 (hr.gr g))
  have C4 := Lib.hid (fun w1 (g : Gr w w1) => refCost_any a n c X Y A B D w1 n60 (hr.gr g))
  have D3 := Lib.hid (fun w1 (g : Gr w w1) => Width_any a n c X Y A B D w1 n60 (hr.gr g))
  have D4 := Lib.hid (fun w1 (g : Gr w w1) => refWidth_any a n c X Y A B D w1 n60 (hr.gr g))
  have O3 := Lib.hid (fun w1 (g : Gr w w1) => On_any a n c X Y A B D w1 n60 (hr.gr g))
  have O4 := Lib.hid (fun w1 (g : Gr w w1) => refOn_any a n c X Y A B D w1 n60 (hr.gr g))
  clear e1 hr h1
  generalize okN (asE n X Y A B D) (rN (sumA X Y A B D n) D) = cN at *
  generalize okN (asE n X Y A B D) (rD (sumA X Y A B D n) D) = cD at *
  generalize okN (asE n X Y A B D) (rN (maxA X Y A B D n) D) = uN at *
  generalize okN (asE n X Y A B D) (rD (maxA X Y A B D n) D) = uD at *
  generalize okL (asE n X Y A B D) (onL (onP X Y A B D) n).length = oL at *
  generalize nf (onL (onP X Y A B D) n) = oF at *
  generalize vP n X Y = vb at *
  generalize inLB A B D = lb at *
  generalize okM (asE n X Y A B D) (pairs n (reN X Y A B D) (reD X Y A B D)) = M at *
  generalize asE n X Y A B D = E at *
  go_enter Try.func5, Try.ntmps5
  go_wp2_with (first
    | (go_at_call 15; refine (HL.out _).mono ?_; rintro e w' ⟨rfl, rfl⟩)
    | (go_at_call 26; refine (H1.out _ G0.out).mono ?_; rintro e w1 ⟨a1, c1, rfl, m1, m2, rd1, g1⟩; have G1 := Lib.hid (G0.out.trans g1); have RD1 := Lib.hid rd1; obtain ⟨y0, y1, y2, _, _, _⟩ := B3.out.gr g1; have GB := Lib.hid g1; clear g1 rd1)
    | (go_at_call 27; refine (H2.out _ G1.out).mono ?_; rintro e w2 ⟨a2, c2, rfl, m3, m4, rd2, g2⟩; have G2 := Lib.hid (G1.out.trans g2); have RD2 := Lib.hid rd2; have RD1' := Lib.hid (RD1.out.gr g2); obtain ⟨z0, z1, z2, _, _, _⟩ := B3.out.gr (GB.out.trans g2); clear rd2))
  have GX := G2
  have R1 := RD1'
  have R2 := RD2
  clear RD1 RD1' RD2 HL H1 H2 G0 G1 GB B3 l0 l1 l2 f0 f1 f2 y0 y1 y2
  go_region_held3 (fun w' => Gr w w' ∧ w'.cell? ⟨w.heap.size, 0, none⟩ = some (.int .i64 A) ∧ w'.cell? ⟨w.heap.size, 1, none⟩ = some (.int .i64 B) ∧ w'.cell? ⟨w.heap.size, 2, none⟩ = some (.int .i64 D))
    (first | exact ⟨GX.out, z0, z1, z2⟩ | exact ⟨GX.out.drew, z0, z1, z2⟩ | go_keep)
    (first
      | (go_at_call 28; refine (V1.out _ (by first | exact GX.out | exact GX.out.drew)).mono ?_; rintro e wX ⟨rfl, gX⟩; (first | (have R1 := Lib.hid (R1.out.gr gX); have R2 := Lib.hid (R2.out.gr gX); have GX := Lib.hid (GX.out.trans gX)) | (have gX := ((Gr.refl _).drew).trans gX; have R1 := Lib.hid (R1.out.gr gX); have R2 := Lib.hid (R2.out.gr gX); have GX := Lib.hid (GX.out.trans gX))); have z0 := gX.cell z0; have z1 := gX.cell z1; have z2 := gX.cell z2)
      | (go_at_call 29; refine (V2.out _ (by first | exact GX.out | exact GX.out.drew)).mono ?_; rintro e wX ⟨rfl, gX⟩; (first | (have R1 := Lib.hid (R1.out.gr gX); have R2 := Lib.hid (R2.out.gr gX); have GX := Lib.hid (GX.out.trans gX)) | (have gX := ((Gr.refl _).drew).trans gX; have R1 := Lib.hid (R1.out.gr gX); have R2 := Lib.hid (R2.out.gr gX); have GX := Lib.hid (GX.out.trans gX))); have z0 := gX.cell z0; have z1 := gX.cell z1; have z2 := gX.cell z2)
      | (go_at_call 30; refine (L1.out _).mono ?_; rintro e wX ⟨rfl, gX⟩; (first | (have R1 := Lib.hid (R1.out.gr gX); have R2 := Lib.hid (R2.out.gr gX); have GX := Lib.hid (GX.out.trans gX)) | (have gX := ((Gr.refl _).drew).trans gX; have R1 := Lib.hid (R1.out.gr gX); have R2 := Lib.hid (R2.out.gr gX); have GX := Lib.hid (GX.out.trans gX))); have z0 := gX.cell z0; have z1 := gX.cell z1; have z2 := gX.cell z2)
      | (go_at_call 31; refine (L2.out _).mono ?_; rintro e wX ⟨rfl, gX⟩; (first | (have R1 := Lib.hid (R1.out.gr gX); have R2 := Lib.hid (R2.out.gr gX); have GX := Lib.hid (GX.out.trans gX)) | (have gX := ((Gr.refl _).drew).trans gX; have R1 := Lib.hid (R1.out.gr gX); have R2 := Lib.hid (R2.out.gr gX); have GX := Lib.hid (GX.out.trans gX))); have z0 := gX.cell z0; have z1 := gX.cell z1; have z2 := gX.cell z2)
      | (go_at_call 32; refine (SameRatios_t a1 a2 M.length c1 c2 (px M) (py M) _ (by unfold maxLen at m2; omega) R1.out R2.out).mono ?_; rintro e wX ⟨rfl, gX⟩; (first | (have R1 := Lib.hid (R1.out.gr gX); have R2 := Lib.hid (R2.out.gr gX); have GX := Lib.hid (GX.out.trans gX)) | (have gX := ((Gr.refl _).drew).trans gX; have R1 := Lib.hid (R1.out.gr gX); have R2 := Lib.hid (R2.out.gr gX); have GX := Lib.hid (GX.out.trans gX))); have z0 := gX.cell z0; have z1 := gX.cell z1; have z2 := gX.cell z2))
  have G := GX
  have N0 : w.heap.size < wX.heap.size := World.block_lt_of_cell? wX _ z0
  clear V1 V2 L1 L2 R1 R2
  go_wp2_with (first
    | (go_at_call 33
       refine (C3.out _ G.out).mono ?_
       rintro e w3 ⟨rfl, g3⟩
       have g3' := g3.alloc (.cells #[.int .i64 cN, .int .i64 cD] 27)
       have G3 := Lib.hid (G.out.trans g3')
       have N3 : wX.heap.size ≤ w3.heap.size := g3.size
       have B9 := Lib.hid (show Box2 (w3.alloc (.cells #[.int .i64 cN, .int .i64 cD] 27)) w3.heap.size cN cD from Box2.new rfl)
       have y0 := g3'.cell z0
       have y1 := g3'.cell z1
       have y2 := g3'.cell z2
       clear g3 g3')
    | (go_at_call 34
       refine (C4.out _ G3.out).mono ?_
       rintro e w4 ⟨rfl, g4⟩
       have g4' := g4.alloc (.cells #[.int .i64 cN, .int .i64 cD] 27)
       have G4 := Lib.hid (G3.out.trans g4')
       have N4 : w3.heap.size < w4.heap.size := by have := g4.size; simp at this; omega
       have B10 := Lib.hid (show Box2 (w4.alloc (.cells #[.int .i64 cN, .int .i64 cD] 27)) w4.heap.size cN cD from Box2.new rfl)
       have B9' := Lib.hid (B9.out.gr g4')
       obtain ⟨p0, p1, p2, p3⟩ := B9'.out
       have x0 := g4'.cell y0
       have x1 := g4'.cell y1
       have x2 := g4'.cell y2
       clear g4 g4')
    | (go_at_call 35
       refine (D3.out _ G4.out).mono ?_
       rintro e w5 ⟨rfl, g5⟩
       have N5 : w4.heap.size < w5.heap.size := by have := g5.size; simp at this; omega
       have b9 := B9'.out.gr g5
       have C9 := Lib.hid (Box2.put (x' := uN) (y' := uD) b9)
       have C10 := Lib.hid ((B10.out.gr g5).far (show w3.heap.size ≠ w4.heap.size by omega) (.int .i64 uN) (.int .i64 uD))
       have G5 := Lib.hid (G4.out.trans g5)
       have u0 := cell_far (k := 1) (cell_far (k := 0) (g5.cell x0) (show w3.heap.size ≠ w.heap.size by omega) (.int .i64 uN)) (show w3.heap.size ≠ w.heap.size by omega) (.int .i64 uD)
       have u1 := cell_far (k := 1) (cell_far (k := 0) (g5.cell x1) (show w3.heap.size ≠ w.heap.size by omega) (.int .i64 uN)) (show w3.heap.size ≠ w.heap.size by omega) (.int .i64 uD)
       have u2 := cell_far (k := 1) (cell_far (k := 0) (g5.cell x2) (show w3.heap.size ≠ w.heap.size by omega) (.int .i64 uN)) (show w3.heap.size ≠ w.heap.size by omega) (.int .i64 uD)
       obtain ⟨q0, q1, q2, q3⟩ := b9
       clear g5)
    | (go_at_call 36
       refine (D4.out _ ((G5.out.setAt (by omega) _).setAt (by omega) _)).mono ?_
       rintro e w6 ⟨rfl, g6⟩
       have N6 : w4.heap.size < w6.heap.size := by have := g6.size; simp at this; omega
       have b10 := Box2.gr C10.out g6
       have E9 := Lib.hid ((C9.out.gr g6).far (show w4.heap.size ≠ w3.heap.size by omega) (.int .i64 uN) (.int .i64 uD))
       have E10 := Lib.hid (Box2.put (x' := uN) (y' := uD) b10)
       have G6 := Lib.hid (((((G5.out.setAt (b := w3.heap.size) (j := 0) (by omega) (.int .i64 uN)).setAt (b := w3.heap.size) (j := 1) (by omega) (.int .i64 uD)).trans g6).setAt (b := w4.heap.size) (j := 0) (by omega) (.int .i64 uN)).setAt (b := w4.heap.size) (j := 1) (by omega) (.int .i64 uD))
       have v0 := cell_far (k := 1) (cell_far (k := 0) (g6.cell u0) (show w4.heap.size ≠ w.heap.size by omega) (.int .i64 uN)) (show w4.heap.size ≠ w.heap.size by omega) (.int .i64 uD)
       have v1 := cell_far (k := 1) (cell_far (k := 0) (g6.cell u1) (show w4.heap.size ≠ w.heap.size by omega) (.int .i64 uN)) (show w4.heap.size ≠ w.heap.size by omega) (.int .i64 uD)
       have v2 := cell_far (k := 1) (cell_far (k := 0) (g6.cell u2) (show w4.heap.size ≠ w.heap.size by omega) (.int .i64 uN)) (show w4.heap.size ≠ w.heap.size by omega) (.int .i64 uD)
       obtain ⟨s0, s1, s2, s3⟩ := b10
       clear g6)
    | (go_at_call 37
       refine (O3.out _ G6.out).mono ?_
       rintro e w7 ⟨a7, c7, rfl, o1, o2, rd7, g7⟩
       have F9 := Lib.hid (E9.out.gr g7)
       have F10 := Lib.hid (E10.out.gr g7)
       have G7 := Lib.hid (G6.out.trans g7)
       have RD7 := Lib.hid rd7
       have t0 := g7.cell v0
       have t1 := g7.cell v1
       have t2 := g7.cell v2
       clear g7 rd7)
    | (go_at_call 38
       refine (O4.out _ G7.out).mono ?_
       rintro e w8 ⟨a8, c8, rfl, o3, o4, rd8, g8⟩
       have RD8 := Lib.hid rd8
       have RD7' := Lib.hid (RD7.out.gr g8)
       have G8 := Lib.hid (G7.out.trans g8)
       obtain ⟨i0, i1, i2, i3⟩ := F9.out.gr g8
       obtain ⟨j0, j1, j2, j3⟩ := F10.out.gr g8
       clear g8 rd8)
    | (go_at_call 25
       refine (SameInts_any a7 a8 oL c7 oL c8 oF oF _ (by unfold maxLen at o2; omega) (by unfold maxLen at o2; omega) RD7'.out RD8.out).mono ?_
       rintro e w9 ⟨rfl, g9⟩
       rw [eqB_true.2 ⟨rfl, fun _ _ => rfl⟩]
       have G9 := Lib.hid (G8.out.trans g9)
       clear g9)
    | (go_at_call 16; refine (Awake_any _).mono ?_; rintro e w6 ⟨rfl, hg11⟩))
  go_ret
  exact ⟨rfl, G9.out.trans hg11⟩
set_option maxRecDepth 100000 in
theorem lifted (os : Os) (started : os.Started) (H : Type) (enc : TypeId × Value → H) :
    ReturnsInHanded {} Try.checked os 5 .any (Rows.trackRestsSpec.pre6 enc Try.prog Try.f5 Rows.trackRestsRow.domain false) (Rows.trackRestsSpec.post enc Try.prog Try.f5 false true false false) := by
  refine returnsInHanded_of_change (C := Try.checked) own started (by kernel_rfl) Try.func5
    (ChangeSpec.witness6 (enc := enc) (C := Try.checked) false ⟨#[], #[.slice none 0 0, .agg #[.int .i64 0, .int .i64 0, .int .i64 0]], []⟩ 8 (by kernel_rfl) (by kernel_rfl) (by kernel_rfl) (by kernel_rfl)) ?_
  intro W base args ds gs before hval0 hW hcnd _
  have hval : ∀ (j : Nat) t v, Try.f5.params[j]? = some t → args[j]? = some v → Value.okWide Try.prog W .any base t v := hval0
  have hW' := hW
  obtain ⟨p, q, hA0, hV, rfl, hfz, hnd⟩ := hW
  have hA : DataW.TrodAll enc Try.prog W 0 (fun _ => true) true Try.f5.params.toList args.toList ds p := hA0
  rw [Try.params5] at hA hval
  obtain ⟨v0, vs0, d0, ds0, p0, q0, hargs, rfl, rfl, h0, r0⟩ := trodAll_cons hA
  obtain ⟨v1, vs1, d1, ds1, p1, q1, rfl, rfl, rfl, h1, r1⟩ := trodAll_cons r0
  obtain ⟨rfl, rfl, rfl⟩ := trodAll_nil r1
  obtain rfl : args = #[v0, v1] := by cases args; simp_all
  obtain ⟨rfl, rfl⟩ := trodVars_none hV
  obtain ⟨a0, len0, cap0, rfl⟩ := okWide_slice Try.underlying22 (hval 0 22 v0 rfl rfl)
  have k0 := h0
  have lt0 : ∀ x ∈ p0, x.block < W.heap.size := by obtain ⟨m, hm⟩ := k0; exact DataW.trod_lt m _ _ _ hm
  obtain ⟨x0, y0, wn0, _, wr0⟩ : ∃ f g : Nat → Int, len0 ≤ 9223372036854775807 ∧ (∀ i, i < len0 → (Lit.int .i64 (f i)).wf = true ∧ (Lit.int .i64 (g i)).wf = true) ∧ RdM W a0 len0 f g := by
    obtain ⟨fuel, hf⟩ := h0
    exact RdM.of_trod Try.underlying22 Try.underlying56 (by kernel_rfl) ⟨rfl, rfl⟩ ⟨rfl, rfl⟩ (by kernel_rfl) Try.underlying3 hf
  have k1 := h1
  have lt1 : ∀ x ∈ p1, x.block < W.heap.size := by obtain ⟨m, hm⟩ := k1; exact DataW.trod_lt m _ _ _ hm
  obtain ⟨x1, y1, z1, rfl, _, _, _⟩ := open_triple Try.underlying37 (by kernel_rfl) (by kernel_rfl) rfl rfl rfl Try.underlying3 (hval 1 37 v1 rfl rfl) h1
  clear hA0 hval0
  refine (walk a0 len0 cap0 x0 y0 x1 y1 z1 W wn0 wr0).mono fun e W' ⟨he, bel⟩ => ?_
  subst he
  exact ⟨_, rfl, _, _, _, [], _, [], hW', trodAll_mk1 (shut_bool Try.underlying4 _), (trodAll_cons_mk (Below.trod laidOut (by kernel_rfl) (of_decide_eq_true (by kernel_rfl)) k0 bel lt0) (trodAll_cons_mk (Below.trod laidOut (by kernel_rfl) (of_decide_eq_true (by kernel_rfl)) k1 bel lt1) trodAll_mk0)), rfl, bel.frame _, fun h => by cases h⟩

theorem over : Rows.trackRestsRow.holds Try.pinned (OpenSpec.ofChange Rows.trackRestsSpec) :=
  OpenClaim.holds_of_wide 5 Try.f5 rfl rfl rfl rfl rfl rfl rfl ⟨rfl, rfl, rfl, rfl, rfl⟩ rfl rfl rfl rfl rfl (by kernel_rfl) Try.func5 (by kernel_rfl)
    (of_decide_eq_true (by kernel_rfl)) (by unfold Func.isWrapper; first | (rw [if_pos (by decide +kernel)]; kernel_rfl) | (rw [if_neg (by decide +kernel)]; exact ⟨rfl, rfl⟩))
    (fun os started H enc _ => lifted os started H enc)

/-- The statement. -/
theorem proved : Rows.TrackRestsSaid := over
end Go.Proofs.Ytbhndfnfohoidaa.trackRests
