/- Proved: TrackLines returns true at all points, and its argument reads afterwards as before. Conditions: none. -/
import Derived.Test.YtbhndfnfohoidaaW32
import Derived.Test.YtbhndfnfohoidaaW27
import Derived.Test.YtbhndfnfohoidaaW28
import Derived.Test.YtbhndfnfohoidaaW16
import Derived.Test.YtbhndfnfohoidaaP8
import Derived.ProofKit
import Derived.OpenShut
import Derived.ShutString
import Derived.ChangeOld
import Derived.Below
namespace Go.Proofs.Ytbhndfnfohoidaa.trackLines
open Go.ChangeShapes Go.WideShapes Go.ChangeAt Go.RowKit Go.Firn
open Go.ChangeMaps (open_string shut_string)

theorem own : ownKnob Try.prog.godebug = none := by kernel_rfl
theorem laidOut : laidOutB Try.prog = true := by kernel_rfl

set_option maxHeartbeats 2000000 in
set_option maxRecDepth 100000 in
theorem walk (a : Option Addr) (n c : Nat) (X Y : Nat → Int) (w : World) (hn : n ≤ 9223372036854775807) (hr : RdM w a n X Y) (hc : n ≤ c) :
    Calls Try.prog 6 #[.slice a n c] w (RetB true w) := by
  have HL := Lib.hid (fun w1 => Long_any a n c w1 hn)
  by_cases h1 : 60 < n
  · have e1 : decide (60 < n) = true := by simpa using h1
    rw [e1] at HL
    clear e1
    go_enter Try.func6, Try.ntmps6
    go_wp2_with (first
      | (go_at_call 15; refine (HL.out _).mono ?_; rintro e w' ⟨rfl, rfl⟩)
      | (go_at_call 16; refine (Awake_any _).mono ?_; rintro e w6 ⟨rfl, hg11⟩))
    go_ret
    exact ⟨rfl, hg11⟩
  have e1 : decide (60 < n) = false := by simpa using h1
  rw [e1] at HL
  have n60 : n ≤ 1000 := by omega
  have C1 := Lib.hid (fun w1 (g : Gr w w1) => Line_any a n c X Y w1 n60 (hr.gr g))
  have C2 := Lib.hid (fun w1 (g : Gr w w1) => Axis_any a n c X Y w1 n60 (hr.gr g))
  have CV := Lib.hid (fun w1 (g : Gr w w1) => refValid_any a n c X Y w1 n60 (hr.gr g))
  have G := Lib.hid (Gr.refl w)
  cases hv : vP n X Y with
  | false =>
    have E := Lib.hid (show leE n X Y = 50 by unfold leE; rw [hv]; rfl)
    have F := Lib.hid (show ∀ N, okE (leE n X Y) N = 0 from fun N => by rw [E.out]; rfl)
    rw [F.out, F.out, F.out, E.out] at C1 C2
    rw [hv] at CV
    clear e1 hr h1 hc hn E F hv
    go_enter Try.func6, Try.ntmps6
    go_wp2_with (first
      | (go_at_call 15; refine (HL.out _).mono ?_; rintro e w' ⟨rfl, rfl⟩)
      | (go_at_call 39; refine (C1.out _ G.out).mono ?_; rintro e w3 ⟨rfl, g3⟩; have G3 := Lib.hid (G.out.trans (g3.alloc (.cells #[.int .i64 0, .int .i64 0, .int .i64 0] 37))); have B3 := Lib.hid (show Box3 (w3.alloc (.cells #[.int .i64 0, .int .i64 0, .int .i64 0] 37)) w3.heap.size 0 0 0 from Box3.new rfl); clear g3)
      | (go_at_call 40; refine (C2.out _ G3.out).mono ?_; rintro e w4 ⟨rfl, g4⟩; have g4' := g4.alloc (.cells #[.int .i64 0, .int .i64 0, .int .i64 0] 37); have G4 := Lib.hid (G3.out.trans g4'); have B34 := Lib.hid (B3.out.gr g4'); have B5 := Lib.hid (show Box3 (w4.alloc (.cells #[.int .i64 0, .int .i64 0, .int .i64 0] 37)) w4.heap.size 0 0 0 from Box3.new rfl); clear g4 g4')
      | (go_at_call 29; refine (CV.out _ G4.out).mono ?_; rintro e w5 ⟨rfl, g5⟩; have G5 := Lib.hid (G4.out.trans g5); obtain ⟨x0, x1, x2, _, _, _⟩ := B34.out.gr g5; obtain ⟨y0, y1, y2, _, _, _⟩ := B5.out.gr g5; clear g5)
      | (go_at_call 16; refine (Awake_any _).mono ?_; rintro e w6 ⟨rfl, hg11⟩))
    go_ret
    exact ⟨rfl, G5.out.trans hg11⟩
  | true =>
    have V := vP_iff.1 hv
    obtain ⟨q, hq, hp⟩ := bst_some V
    obtain ⟨hl, _, _⟩ := pr_in V.ok hp
    obtain ⟨⟨x1, x2⟩, hx⟩ := axis_ok V
    have E := Lib.hid (leE_ok V)
    have F := Lib.hid (show ∀ N, okE (leE n X Y) N = N from fun N => by rw [E.out]; rfl)
    rw [F.out, F.out, F.out, E.out] at C1 C2
    have C1 := Lib.hid (show ∀ w1, Gr w w1 → Calls Try.prog 39 #[.slice a n c] w1 (RetLE (pA X Y q) (pB X Y q) (pD X Y q) 0 w1) from fun w1 g => by have h := C1.out w1 g; rw [hq] at h; exact h)
    have C20 := Lib.hid (show ∀ w1, Gr w w1 → Calls Try.prog 20 #[.slice a n c] w1 (RetRE (pN n X Y q) (pE n X Y q) 0 w1) from fun w1 g => by
      have h := refLeast_any a n c X Y w1 n60 hc (hr.gr g)
      have e1 : leN n X Y = pN n X Y q := by unfold leN; rw [hv, hq]; rfl
      have e2 : leD n X Y = pE n X Y q := by unfold leD; rw [hv, hq]; rfl
      rw [e1, e2, E.out] at h
      exact h)
    have C22 := Lib.hid (show ∀ w1, Gr w w1 → Calls Try.prog 22 #[.slice a n c] w1 (RetRE (witS X Y (wits n X)).N (witS X Y (wits n X)).D 0 w1) from fun w1 g => by
      have h := refNarrowest_any a n c X Y w1 n60 (hr.gr g)
      unfold naN naD naE at h
      rw [hv] at h
      exact h)
    have C34 := Lib.hid (show ∀ w1, Gr w w1 → Calls Try.prog 34 #[.slice a n c, .agg #[.int .i64 (pA X Y q), .int .i64 (pB X Y q), .int .i64 (pD X Y q)]] w1 (RetRE (pN n X Y q) (pE n X Y q) 0 w1) from fun w1 g => by
      have h := refCost_any a n c X Y (pA X Y q) (pB X Y q) (pD X Y q) w1 n60 (hr.gr g)
      rw [asE_pair V hp] at h
      exact h)
    have C36 := Lib.hid (show ∀ w1, Gr w w1 → Calls Try.prog 36 #[.slice a n c, .agg #[.int .i64 (axL n X Y (witS X Y (wits n X)).l).A, .int .i64 (axL n X Y (witS X Y (wits n X)).l).B, .int .i64 (axL n X Y (witS X Y (wits n X)).l).D]] w1 (RetRE (witS X Y (wits n X)).N (witS X Y (wits n X)).D 0 w1) from fun w1 g => by
      have h := refWidth_any a n c X Y (axL n X Y (witS X Y (wits n X)).l).A (axL n X Y (witS X Y (wits n X)).l).B (axL n X Y (witS X Y (wits n X)).l).D w1 n60 (hr.gr g)
      rw [asE_zero V hx, x1, x2] at h
      exact h)
    rw [hv] at CV
    clear e1 hr h1 hc hn E F hv V hq hp hl x1 x2 hx
    generalize pA X Y q = lA at *
    generalize pB X Y q = lB at *
    generalize pD X Y q = lD at *
    generalize pN n X Y q = cN at *
    generalize pE n X Y q = cD at *
    generalize (axL n X Y (witS X Y (wits n X)).l).A = xA at *
    generalize (axL n X Y (witS X Y (wits n X)).l).B = xB at *
    generalize (axL n X Y (witS X Y (wits n X)).l).D = xD at *
    generalize (witS X Y (wits n X)).N = uN at *
    generalize (witS X Y (wits n X)).D = uD at *
    go_enter Try.func6, Try.ntmps6
    go_wp2_with (first
      | (go_at_call 15; refine (HL.out _).mono ?_; rintro e w' ⟨rfl, rfl⟩)
      | (go_at_call 39; refine (C1.out _ G.out).mono ?_; rintro e w3 ⟨rfl, g3⟩; have G3 := Lib.hid (G.out.trans (g3.alloc (.cells #[.int .i64 lA, .int .i64 lB, .int .i64 lD] 37))); have B3 := Lib.hid (show Box3 (w3.alloc (.cells #[.int .i64 lA, .int .i64 lB, .int .i64 lD] 37)) w3.heap.size lA lB lD from Box3.new rfl); clear g3)
      | (go_at_call 40; refine (C2.out _ G3.out).mono ?_; rintro e w4 ⟨rfl, g4⟩; have g4' := g4.alloc (.cells #[.int .i64 xA, .int .i64 xB, .int .i64 xD] 37); have G4 := Lib.hid (G3.out.trans g4'); have B34 := Lib.hid (B3.out.gr g4'); have B5 := Lib.hid (show Box3 (w4.alloc (.cells #[.int .i64 xA, .int .i64 xB, .int .i64 xD] 37)) w4.heap.size xA xB xD from Box3.new rfl); clear g4 g4')
      | (go_at_call 29; refine (CV.out _ G4.out).mono ?_; rintro e w5 ⟨rfl, g5⟩; have G5 := Lib.hid (G4.out.trans g5); have B35 := Lib.hid (B34.out.gr g5); have B55 := Lib.hid (B5.out.gr g5); clear g5)
      | (go_at_call 20; refine (C20.out _ G5.out).mono ?_; rintro e w7 ⟨rfl, g7⟩; have g7' := g7.alloc (.cells #[.int .i64 cN, .int .i64 cD] 27); have G7 := Lib.hid (G5.out.trans g7'); have B37 := Lib.hid (B35.out.gr g7'); have B57 := Lib.hid (B55.out.gr g7'); have B7 := Lib.hid (show Box2 (w7.alloc (.cells #[.int .i64 cN, .int .i64 cD] 27)) w7.heap.size cN cD from Box2.new rfl); clear g7 g7')
      | (go_at_call 22; refine (C22.out _ G7.out).mono ?_; rintro e w8 ⟨rfl, g8⟩; have g8' := g8.alloc (.cells #[.int .i64 uN, .int .i64 uD] 27); have G8 := Lib.hid (G7.out.trans g8'); have B38 := Lib.hid (B37.out.gr g8'); have B58 := Lib.hid (B57.out.gr g8'); have B78 := Lib.hid (B7.out.gr g8'); have B9 := Lib.hid (show Box2 (w8.alloc (.cells #[.int .i64 uN, .int .i64 uD] 27)) w8.heap.size uN uD from Box2.new rfl); obtain ⟨x0, x1, x2, _, _, _⟩ := B38.out; clear g8 g8')
      | (go_at_call 34; refine (C34.out _ G8.out).mono ?_; rintro e w9 ⟨rfl, g9⟩; have g9' := g9.alloc (.cells #[.int .i64 cN, .int .i64 cD] 27); have G9 := Lib.hid (G8.out.trans g9'); have B79 := Lib.hid (B78.out.gr g9'); have B99 := Lib.hid (B9.out.gr g9'); have B11 := Lib.hid (show Box2 (w9.alloc (.cells #[.int .i64 cN, .int .i64 cD] 27)) w9.heap.size cN cD from Box2.new rfl); obtain ⟨y0, y1, y2, _, _, _⟩ := B58.out.gr g9'; clear g9 g9')
      | (go_at_call 36; refine (C36.out _ G9.out).mono ?_; rintro e w10 ⟨rfl, g10⟩; have g10' := g10.alloc (.cells #[.int .i64 uN, .int .i64 uD] 27); have G10 := Lib.hid (G9.out.trans g10'); obtain ⟨a0, a1, _, _⟩ := B79.out.gr g10'; obtain ⟨b0, b1, _, _⟩ := B99.out.gr g10'; obtain ⟨d0, d1, _, _⟩ := B11.out.gr g10'; clear g10 g10')
      | (go_at_call 16; refine (Awake_any _).mono ?_; rintro e w6 ⟨rfl, hg11⟩))
    go_ret
    exact ⟨rfl, G10.out.trans hg11⟩

set_option maxRecDepth 100000 in
theorem lifted (os : Os) (started : os.Started) (H : Type) (enc : TypeId × Value → H) :
    ReturnsInHanded {} Try.checked os 6 .any (Rows.trackLinesSpec.pre6 enc Try.prog Try.f6 Rows.trackLinesRow.domain false) (Rows.trackLinesSpec.post enc Try.prog Try.f6 false true false false) := by
  refine returnsInHanded_of_change (C := Try.checked) own started (by kernel_rfl) Try.func6
    (ChangeSpec.witness6 (enc := enc) (C := Try.checked) false ⟨#[], #[.slice none 0 0], []⟩ 8 (by kernel_rfl) (by kernel_rfl) (by kernel_rfl) (by kernel_rfl)) ?_
  intro W base args ds gs before hval0 hW hcnd _
  have hval : ∀ (j : Nat) t v, Try.f6.params[j]? = some t → args[j]? = some v → Value.okWide Try.prog W .any base t v := hval0
  have hW' := hW
  obtain ⟨p, q, hA0, hV, rfl, hfz, hnd⟩ := hW
  have hA : DataW.TrodAll enc Try.prog W 0 (fun _ => true) true Try.f6.params.toList args.toList ds p := hA0
  rw [Try.params6] at hA hval
  obtain ⟨v0, vs0, d0, ds0, p0, q0, hargs, rfl, rfl, h0, r0⟩ := trodAll_cons hA
  obtain ⟨rfl, rfl, rfl⟩ := trodAll_nil r0
  obtain rfl : args = #[v0] := by cases args; simp_all
  obtain ⟨rfl, rfl⟩ := trodVars_none hV
  obtain ⟨a0, len0, cap0, rfl⟩ := okWide_slice Try.underlying22 (hval 0 22 v0 rfl rfl)
  have wc0 : len0 ≤ cap0 := by
    obtain ⟨fuel, hf⟩ := h0
    exact slice_le Try.underlying22 hf
  have k0 := h0
  have lt0 : ∀ x ∈ p0, x.block < W.heap.size := by obtain ⟨m, hm⟩ := k0; exact DataW.trod_lt m _ _ _ hm
  obtain ⟨x0, y0, wn0, _, wr0⟩ : ∃ f g : Nat → Int, len0 ≤ 9223372036854775807 ∧ (∀ i, i < len0 → (Lit.int .i64 (f i)).wf = true ∧ (Lit.int .i64 (g i)).wf = true) ∧ RdM W a0 len0 f g := by
    obtain ⟨fuel, hf⟩ := h0
    exact RdM.of_trod Try.underlying22 Try.underlying56 (by kernel_rfl) ⟨rfl, rfl⟩ ⟨rfl, rfl⟩ (by kernel_rfl) Try.underlying3 hf
  clear hA0 hval0
  refine (walk a0 len0 cap0 x0 y0 W wn0 wr0 wc0).mono fun e W' ⟨he, bel⟩ => ?_
  subst he
  exact ⟨_, rfl, _, _, _, [], _, [], hW', trodAll_mk1 (shut_bool Try.underlying4 _), (trodAll_cons_mk (Below.trod laidOut (by kernel_rfl) (of_decide_eq_true (by kernel_rfl)) k0 bel lt0) trodAll_mk0), rfl, bel.frame _, fun h => by cases h⟩

theorem over : Rows.trackLinesRow.holds Try.pinned (OpenSpec.ofChange Rows.trackLinesSpec) :=
  OpenClaim.holds_of_wide 6 Try.f6 rfl rfl rfl rfl rfl rfl rfl ⟨rfl, rfl, rfl, rfl, rfl⟩ rfl rfl rfl rfl rfl (by kernel_rfl) Try.func6 (by kernel_rfl)
    (of_decide_eq_true (by kernel_rfl)) (by unfold Func.isWrapper; first | (rw [if_pos (by decide +kernel)]; kernel_rfl) | (rw [if_neg (by decide +kernel)]; exact ⟨rfl, rfl⟩))
    (fun os started H enc _ => lifted os started H enc)

/-- The statement. -/
theorem proved : Rows.TrackLinesSaid := over
end Go.Proofs.Ytbhndfnfohoidaa.trackLines
