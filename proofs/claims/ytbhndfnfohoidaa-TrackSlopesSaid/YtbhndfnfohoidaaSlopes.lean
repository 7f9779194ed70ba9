/- Proved: TrackSlopes returns true at all arguments, which read afterwards as before. Conditions: none. -/
import Derived.Test.YtbhndfnfohoidaaW41
import Derived.Test.YtbhndfnfohoidaaW43
import Derived.Test.YtbhndfnfohoidaaW46
import Derived.Test.YtbhndfnfohoidaaW47
import Derived.Test.YtbhndfnfohoidaaW28
import Derived.Test.YtbhndfnfohoidaaW12
import Derived.ProofKit
import Derived.OpenShut
import Derived.ShutString
import Derived.ChangeOld
import Derived.Below
namespace Go.Proofs.Ytbhndfnfohoidaa.trackSlopes
open Go.ChangeShapes Go.WideShapes Go.ChangeAt Go.RowKit Go.Firn
open Go.ChangeMaps (open_string shut_string)

theorem own : ownKnob Try.prog.godebug = none := by kernel_rfl
theorem laidOut : laidOutB Try.prog = true := by kernel_rfl

/-- Four ints in a row. -/
def Four (W : World) (b : Nat) (x1 y1 x2 y2 : Int) : Prop := W.cell? ⟨b, 0, none⟩ = some (.int .i64 x1) ∧ W.cell? ⟨b, 1, none⟩ = some (.int .i64 y1) ∧ W.cell? ⟨b, 2, none⟩ = some (.int .i64 x2) ∧ W.cell? ⟨b, 3, none⟩ = some (.int .i64 y2)
theorem Four.gr {W W' : World} {b : Nat} {x1 y1 x2 y2 : Int} (h : Four W b x1 y1 x2 y2) (g : Gr W W') : Four W' b x1 y1 x2 y2 := ⟨g.cell h.1, g.cell h.2.1, g.cell h.2.2.1, g.cell h.2.2.2⟩

/-- Both medians are told the same. -/
theorem both_slopes (a : Option Addr) (n c : Nat) (X Y : Nat → Int) (w : World) (hn : n ≤ 1000) (hc : n ≤ c) (hr : RdM w a n X Y) :
    ∃ mN mD mE, (∀ w1, Gr w w1 → Calls Try.prog 50 #[.slice a n c] w1 (RetRE mN mD mE w1)) ∧ ∀ w1, Gr w w1 → Calls Try.prog 51 #[.slice a n c] w1 (RetRE mN mD mE w1) := by
  cases hv : vP n X Y with
  | false => exact ⟨0, 0, 50, fun w1 g => Slope_none a n c X Y w1 hn (hr.gr g) hv, fun w1 g => refSlope_none a n c X Y w1 hn (hr.gr g) hv⟩
  | true =>
    have V := vP_iff.1 hv
    obtain ⟨b, o, e, _⟩ := hr.at (show 0 < n by have := V.two; omega)
    subst e
    exact ⟨(med (sls X Y (prs X n))).1, (med (sls X Y (prs X n))).2, 0, fun w1 g => Slope_any b o n c X Y V w1 (hr.gr g), fun w1 g => refSlope_any b o n c X Y V hc w1 (hr.gr g)⟩

set_option maxHeartbeats 4000000 in
set_option maxRecDepth 100000 in
theorem walk (a : Option Addr) (n c : Nat) (X Y : Nat → Int) (s u : Int) (x1 y1 x2 y2 : Int) (w : World) (hn : n ≤ 9223372036854775807) (hr : RdM w a n X Y) (hc : n ≤ c) (hs : (Lit.int .i64 s).wf = true) (hu : (Lit.int .i64 u).wf = true) :
    Calls Try.prog 12 #[.slice a n c, .int .i64 s, .int .i64 u, .agg #[.int .i64 x1, .int .i64 y1, .int .i64 x2, .int .i64 y2]] w (RetB true w) := by
  have HL := Lib.hid (fun w1 => Long_any a n c w1 hn)
  obtain ⟨W0, hW0⟩ : ∃ W0, w.alloc (.cells #[.int .i64 x1, .int .i64 y1, .int .i64 x2, .int .i64 y2] 66) = W0 := ⟨_, rfl⟩
  have G0 := Lib.hid (show Gr w W0 by rw [← hW0]; exact (Gr.refl w).alloc _)
  have z0 : W0.cell? ⟨w.heap.size, 0, none⟩ = some (.int .i64 x1) := by rw [← hW0]; exact (Gr.refl _).fresh' rfl rfl |>.1
  have z1 : W0.cell? ⟨w.heap.size, 1, none⟩ = some (.int .i64 y1) := by rw [← hW0]; exact (Gr.refl _).fresh' rfl rfl |>.1
  have z2 : W0.cell? ⟨w.heap.size, 2, none⟩ = some (.int .i64 x2) := by rw [← hW0]; exact (Gr.refl _).fresh' rfl rfl |>.1
  have z3 : W0.cell? ⟨w.heap.size, 3, none⟩ = some (.int .i64 y2) := by rw [← hW0]; exact (Gr.refl _).fresh' rfl rfl |>.1
  have BT := Lib.hid (show Four W0 w.heap.size x1 y1 x2 y2 from ⟨z0, z1, z2, z3⟩)
  clear z0 z1 z2 z3
  by_cases h1 : 60 < n
  · have e1 : decide (60 < n) = true := by simpa using h1
    rw [e1] at HL
    clear e1
    go_enter Try.func12, Try.ntmps12
    go_wp2_with (first
      | (go_at_call 15; refine (HL.out _).mono ?_; rintro e w' ⟨rfl, rfl⟩)
      | (go_at_call 16; refine (Awake_any _).mono ?_; rintro e w6 ⟨rfl, hg11⟩))
    go_ret
    exact ⟨rfl, G0.out.trans hg11⟩
  have e1 : decide (60 < n) = false := by simpa using h1
  rw [e1] at HL
  have n60 : n ≤ 1000 := by omega
  obtain ⟨mN, mD, mE, c50, c51⟩ := both_slopes a n c X Y w n60 hc hr
  have C50 := Lib.hid c50
  have C51 := Lib.hid c51
  have C49 := Lib.hid (fun w1 (g : Gr w w1) => Raised_any a n c X Y s u w1 n60 (hr.gr g))
  have C52 := Lib.hid (fun w1 (g : Gr w w1) => refRaised_any a n c X Y s u w1 n60 (wf64 hs) (wf64 hu) (hr.gr g))
  have C48 := Lib.hid (fun w1 (g : Gr w w1) => Turned_any a n c X Y w1 n60 (hr.gr g))
  have C54 := Lib.hid (fun w1 (g : Gr w w1) => refTurned_any a n c X Y w1 n60 (hr.gr g))
  have C45 := Lib.hid (fun w1 => Through_any x1 y1 x2 y2 w1)
  have C55 := Lib.hid (fun w1 => refThrough_any x1 y1 x2 y2 w1)
  have L1 : (okM (raE n X Y s u) (pairs n X (rz X Y s u))).length ≤ 1000 := by unfold okM; split <;> simp [pairs_length]; omega
  have L2 : (okM (vE n X Y) (pairs n (ng X) Y)).length ≤ 1000 := by unfold okM; split <;> simp [pairs_length]; omega
  clear e1 hr h1 hn hc hs hu c50 c51
  generalize okM (raE n X Y s u) (pairs n X (rz X Y s u)) = la at *
  generalize okM (vE n X Y) (pairs n (ng X) Y) = lb at *
  generalize raE n X Y s u = re at *
  generalize vE n X Y = ve at *
  generalize okE (thE x1 y1 x2 y2) (thA x1 y1 x2 y2) = tA at *
  generalize okE (thE x1 y1 x2 y2) (thB x1 y1 x2 y2) = tB at *
  generalize okE (thE x1 y1 x2 y2) (thD x1 y1 x2 y2) = tD at *
  generalize thE x1 y1 x2 y2 = tE at *
  go_enter Try.func12, Try.ntmps12
  go_wp2_with (first
    | (go_at_call 15; refine (HL.out _).mono ?_; rintro e w' ⟨rfl, rfl⟩)
    | (go_at_call 50; (with_reducible refine (C50.out _ G0.out).mono ?_); rintro e w1 ⟨rfl, g1⟩; have g1' := g1.alloc (.cells #[.int .i64 mN, .int .i64 mD] 27); have G1 := Lib.hid (G0.out.trans g1'); have BT := Lib.hid (BT.out.gr g1'); have BA := Lib.hid (show Box2 (w1.alloc (.cells #[.int .i64 mN, .int .i64 mD] 27)) w1.heap.size mN mD from Box2.new rfl); clear g1 g1')
    | (go_at_call 51; (with_reducible refine (C51.out _ G1.out).mono ?_); rintro e w2 ⟨rfl, g2⟩; have g2' := g2.alloc (.cells #[.int .i64 mN, .int .i64 mD] 27); have G2 := Lib.hid (G1.out.trans g2'); have BT := Lib.hid (BT.out.gr g2'); have BA := Lib.hid (BA.out.gr g2'); have BB := Lib.hid (show Box2 (w2.alloc (.cells #[.int .i64 mN, .int .i64 mD] 27)) w2.heap.size mN mD from Box2.new rfl); obtain ⟨ba0, ba1, _, _⟩ := BA.out; obtain ⟨bb0, bb1, _, _⟩ := BB.out; clear g2 g2')
    | (go_at_call 49; (with_reducible refine (C49.out _ G2.out).mono ?_); rintro e w3 ⟨a1, c1, rfl, h1, h2, rd1, g3⟩; have RA := Lib.hid rd1; clear rd1; have G3 := Lib.hid (G2.out.trans g3); have BT := Lib.hid (BT.out.gr g3); have BA := Lib.hid (BA.out.gr g3); have BB := Lib.hid (BB.out.gr g3); clear g3)
    | (go_at_call 52; (with_reducible refine (C52.out _ G3.out).mono ?_); rintro e w4 ⟨a2, c2, rfl, h3, h4, rd2, g4⟩; have RB := Lib.hid rd2; clear rd2; have G4 := Lib.hid (G3.out.trans g4); have BT := Lib.hid (BT.out.gr g4); have BA := Lib.hid (BA.out.gr g4); have BB := Lib.hid (BB.out.gr g4); have RA := Lib.hid (RA.out.gr g4); clear g4)
    | (go_at_call 53; (with_reducible refine (SamePoints_t a1 a2 la.length c1 c2 (px la) (py la) _ (by omega) RA.out RB.out).mono ?_); rintro e w5 ⟨rfl, g5⟩; have G5 := Lib.hid (G4.out.trans g5); have BT := Lib.hid (BT.out.gr g5); have BA := Lib.hid (BA.out.gr g5); have BB := Lib.hid (BB.out.gr g5); have RA := Lib.hid (RA.out.gr g5); have RB := Lib.hid (RB.out.gr g5); clear g5)
    | (go_at_call 48; (with_reducible refine (C48.out _ G5.out).mono ?_); rintro e w6 ⟨a3, c3, rfl, h5, h6, rd3, g6⟩; have RC := Lib.hid rd3; clear rd3; have G6 := Lib.hid (G5.out.trans g6); have BT := Lib.hid (BT.out.gr g6); have BA := Lib.hid (BA.out.gr g6); have BB := Lib.hid (BB.out.gr g6); have RA := Lib.hid (RA.out.gr g6); have RB := Lib.hid (RB.out.gr g6); clear g6)
    | (go_at_call 54; (with_reducible refine (C54.out _ G6.out).mono ?_); rintro e w7 ⟨a4, c4, rfl, h7, h8, rd4, g7⟩; have RE := Lib.hid rd4; clear rd4; obtain ⟨t0, t1, t2, t3⟩ := BT.out.gr g7; have G7 := Lib.hid (G6.out.trans g7); have BT := Lib.hid (BT.out.gr g7); have BA := Lib.hid (BA.out.gr g7); have BB := Lib.hid (BB.out.gr g7); have RA := Lib.hid (RA.out.gr g7); have RB := Lib.hid (RB.out.gr g7); have RC := Lib.hid (RC.out.gr g7); clear g7)
    | (go_at_call 45; (with_reducible refine (C45.out _).mono ?_); rintro e w8 ⟨rfl, g8⟩; have g8' := g8.alloc (.cells #[.int .i64 tA, .int .i64 tB, .int .i64 tD] 37); have G8 := Lib.hid (G7.out.trans g8'); have BT := Lib.hid (BT.out.gr g8'); have BA := Lib.hid (BA.out.gr g8'); have BB := Lib.hid (BB.out.gr g8'); have RA := Lib.hid (RA.out.gr g8'); have RB := Lib.hid (RB.out.gr g8'); have RC := Lib.hid (RC.out.gr g8'); have RE := Lib.hid (RE.out.gr g8'); have BL := Lib.hid (show Box3 (w8.alloc (.cells #[.int .i64 tA, .int .i64 tB, .int .i64 tD] 37)) w8.heap.size tA tB tD from Box3.new rfl); obtain ⟨t0, t1, t2, t3⟩ := BT.out; clear g8 g8')
    | (go_at_call 55; (with_reducible refine (C55.out _).mono ?_); rintro e w9 ⟨rfl, g9⟩; have g9' := g9.alloc (.cells #[.int .i64 tA, .int .i64 tB, .int .i64 tD] 37); have G9 := Lib.hid (G8.out.trans g9'); have BT := Lib.hid (BT.out.gr g9'); have BA := Lib.hid (BA.out.gr g9'); have BB := Lib.hid (BB.out.gr g9'); have RA := Lib.hid (RA.out.gr g9'); have RB := Lib.hid (RB.out.gr g9'); have RC := Lib.hid (RC.out.gr g9'); have RE := Lib.hid (RE.out.gr g9'); have BL := Lib.hid (BL.out.gr g9'); have BM := Lib.hid (show Box3 (w9.alloc (.cells #[.int .i64 tA, .int .i64 tB, .int .i64 tD] 37)) w9.heap.size tA tB tD from Box3.new rfl); clear g9 g9')
    | (go_at_call 53; (with_reducible refine (SamePoints_t a3 a4 lb.length c3 c4 (px lb) (py lb) _ (by omega) RC.out RE.out).mono ?_); rintro e w10 ⟨rfl, g10⟩; have G10 := Lib.hid (G9.out.trans g10); have BT := Lib.hid (BT.out.gr g10); have BA := Lib.hid (BA.out.gr g10); have BB := Lib.hid (BB.out.gr g10); have RA := Lib.hid (RA.out.gr g10); have RB := Lib.hid (RB.out.gr g10); have RC := Lib.hid (RC.out.gr g10); have RE := Lib.hid (RE.out.gr g10); have BL := Lib.hid (BL.out.gr g10); have BM := Lib.hid (BM.out.gr g10); obtain ⟨bl0, bl1, bl2, _, _, _⟩ := BL.out; obtain ⟨bm0, bm1, bm2, _, _, _⟩ := BM.out; clear g10)
    | (go_at_call 16; refine (Awake_any _).mono ?_; rintro e w6 ⟨rfl, hg11⟩))
  go_ret
  exact ⟨rfl, G10.out.trans hg11⟩

set_option maxRecDepth 100000 in
theorem lifted (os : Os) (started : os.Started) (H : Type) (enc : TypeId × Value → H) :
    ReturnsInHanded {} Try.checked os 12 .any (Rows.trackSlopesSpec.pre6 enc Try.prog Try.f12 Rows.trackSlopesRow.domain false) (Rows.trackSlopesSpec.post enc Try.prog Try.f12 false true false false) := by
  refine returnsInHanded_of_change (C := Try.checked) own started (by kernel_rfl) Try.func12
    (ChangeSpec.witness6 (enc := enc) (C := Try.checked) false ⟨#[], #[.slice none 0 0, .int .i64 0, .int .i64 0, .agg #[.int .i64 0, .int .i64 0, .int .i64 0, .int .i64 0]], []⟩ 8 (by kernel_rfl) (by kernel_rfl) (by kernel_rfl) (by kernel_rfl)) ?_
  intro W base args ds gs before hval0 hW hcnd _
  have hval : ∀ (j : Nat) t v, Try.f12.params[j]? = some t → args[j]? = some v → Value.okWide Try.prog W .any base t v := hval0
  have hW' := hW
  obtain ⟨p, q, hA0, hV, rfl, hfz, hnd⟩ := hW
  have hA : DataW.TrodAll enc Try.prog W 0 (fun _ => true) true Try.f12.params.toList args.toList ds p := hA0
  rw [Try.params12] at hA hval
  obtain ⟨v0, vs0, d0, ds0, p0, q0, hargs, rfl, rfl, h0, r0⟩ := trodAll_cons hA
  obtain ⟨v1, vs1, d1, ds1, p1, q1, rfl, rfl, rfl, h1, r1⟩ := trodAll_cons r0
  obtain ⟨v2, vs2, d2, ds2, p2, q2, rfl, rfl, rfl, h2, r2⟩ := trodAll_cons r1
  obtain ⟨v3, vs3, d3, ds3, p3, q3, rfl, rfl, rfl, h3, r3⟩ := trodAll_cons r2
  obtain ⟨rfl, rfl, rfl⟩ := trodAll_nil r3
  obtain rfl : args = #[v0, v1, v2, v3] := by cases args; simp_all
  obtain ⟨rfl, rfl⟩ := trodVars_none hV
  obtain ⟨a0, len0, cap0, rfl⟩ := okWide_slice Try.underlying22 (hval 0 22 v0 rfl rfl)
  have wc0 : len0 ≤ cap0 := by
    obtain ⟨fuel, hf⟩ := h0
    exact slice_le Try.underlying22 hf
  have k0 := h0
  have lt0 : ∀ x ∈ p0, x.block < W.heap.size := by obtain ⟨m, hm⟩ := k0; exact DataW.trod_lt m _ _ _ hm
  obtain ⟨x0, y0, wn0, _, wr0⟩ : ∃ f g : Nat → Int, len0 ≤ 9223372036854775807 ∧ (∀ i, i < len0 → (Lit.int .i64 (f i)).wf = true ∧ (Lit.int .i64 (g i)).wf = true) ∧ RdM W a0 len0 f g := by
    obtain ⟨fuel, hf⟩ := h0
    exact RdM.of_trod Try.underlying22 Try.underlying56 (by kernel_rfl) ⟨rfl, rfl⟩ ⟨rfl, rfl⟩ (by kernel_rfl) Try.underlying3 hf
  obtain ⟨a1, rfl, rfl, rfl, w1⟩ := open_int Try.underlying3 (hval 1 3 v1 rfl rfl) h1
  obtain ⟨a2, rfl, rfl, rfl, w2⟩ := open_int Try.underlying3 (hval 2 3 v2 rfl rfl) h2
  have k3 := h3
  have lt3 : ∀ x ∈ p3, x.block < W.heap.size := by obtain ⟨m, hm⟩ := k3; exact DataW.trod_lt m _ _ _ hm
  obtain ⟨x3, y3, z3, u3, rfl⟩ := open_arr2s Try.underlying66 Try.underlying56 (by kernel_rfl) (by kernel_rfl) (by kernel_rfl) rfl rfl Try.underlying3 (hval 3 66 v3 rfl rfl) h3
  clear hA0 hval0
  refine (walk a0 len0 cap0 x0 y0 a1 a2 x3 y3 z3 u3 W wn0 wr0 wc0 w1 w2).mono fun e W' ⟨he, bel⟩ => ?_
  subst he
  exact ⟨_, rfl, _, _, _, [], _, [], hW', trodAll_mk1 (shut_bool Try.underlying4 _), (trodAll_cons_mk (Below.trod laidOut (by kernel_rfl) (of_decide_eq_true (by kernel_rfl)) k0 bel lt0) (trodAll_cons_mk (shut_int Try.underlying3 w1) (trodAll_cons_mk (shut_int Try.underlying3 w2) (trodAll_cons_mk (Below.trod laidOut (by kernel_rfl) (of_decide_eq_true (by kernel_rfl)) k3 bel lt3) trodAll_mk0)))), rfl, bel.frame _, fun h => by cases h⟩

theorem over : Rows.trackSlopesRow.holds Try.pinned (OpenSpec.ofChange Rows.trackSlopesSpec) :=
  OpenClaim.holds_of_wide 12 Try.f12 rfl rfl rfl rfl rfl rfl rfl ⟨rfl, rfl, rfl, rfl, rfl⟩ rfl rfl rfl rfl rfl (by kernel_rfl) Try.func12 (by kernel_rfl)
    (of_decide_eq_true (by kernel_rfl)) (by unfold Func.isWrapper; first | (rw [if_pos (by decide +kernel)]; kernel_rfl) | (rw [if_neg (by decide +kernel)]; exact ⟨rfl, rfl⟩))
    (fun os started H enc _ => lifted os started H enc)

/-- The statement. -/
theorem proved : Rows.TrackSlopesSaid := over
end Go.Proofs.Ytbhndfnfohoidaa.trackSlopes
