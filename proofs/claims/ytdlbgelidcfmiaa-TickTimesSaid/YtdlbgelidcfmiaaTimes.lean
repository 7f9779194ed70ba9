/- Proved: TickTimes returns true at every clock, local time and ratio, and its arguments read afterwards as before. Conditions: none. -/
import Derived.Test.YtdlbgelidcfmiaaW18
import Derived.ProofKit
import Derived.OpenShut
import Derived.ShutString
import Derived.ChangeOld
import Derived.Below
namespace Go.Proofs.Ytdlbgelidcfmiaa.tickTimes
open Go.ChangeShapes Go.WideShapes Go.ChangeAt Go.RowKit Go.Firn

theorem own : ownKnob Try.prog.godebug = none := by kernel_rfl
theorem laidOut : laidOutB Try.prog = true := by kernel_rfl

set_option maxRecDepth 100000 in
set_option maxHeartbeats 2000000 in
theorem walk_ok (a : Option Addr) (n c : Nat) (L T : Nat → Int) (lo N D : Int) (w : World) (hn : n ≤ 9223372036854775807) (hr : RdM w a n L T) (hs : ¬ 100 < n) :
    Calls Try.prog 6 #[.slice a n c, .int .i64 lo, .agg #[.int .i64 N, .int .i64 D]] w (RetB true w) := by
  have A1 := Lib.hid (fun w1 h => At_any a n c L T lo w1 hn h)
  have A2 := Lib.hid (fun w1 h => refAt_any a n c L T lo w1 hn h)
  have A3 := Lib.hid (fun w1 h => Back_any a n c L T N D w1 hn h)
  have A4 := Lib.hid (fun w1 h => refBack_any a n c L T N D w1 hn h)
  have A5 := Lib.hid (fun w1 h => Speed_any a n c L T lo w1 hn h)
  have A6 := Lib.hid (fun w1 h => refSpeed_any a n c L T lo w1 hn h)
  have A7 := Lib.hid (fun w1 h => ValidClock_any a n c L T w1 hn h)
  have A8 := Lib.hid (fun w1 h => refValidClock_any a n c L T w1 hn h)
  generalize okV (vK n L T) (btw 0 lo 100000) (AN n L T lo) = x at *
  generalize okV (vK n L T) (btw 0 lo 100000) (AD n L T lo) = y at *
  generalize okE (vK n L T) (btw 0 lo 100000) = e1 at *
  generalize okV (vK n L T) (bkR N D) (BN n L T N D) = p at *
  generalize okV (vK n L T) (bkR N D) (BD n L T N D) = q at *
  generalize okE (vK n L T) (bkR N D) = e2 at *
  generalize okV (vK n L T) (btw 0 lo 100000) (SN n L T lo) = u at *
  generalize okV (vK n L T) (btw 0 lo 100000) (SD n L T lo) = v at *
  generalize vK n L T = vk at *
  have g0 : Gr w (w.alloc (.cells #[.int .i64 N, .int .i64 D] 37)) := (Gr.refl w).alloc _
  have T0 : Box2 (w.alloc (.cells #[.int .i64 N, .int .i64 D] 37)) w.heap.size N D := Box2.new rfl
  go_enter Try.func6, Try.ntmps6
  go_wp2_with fail
  refine (Long_any a n c _ hn).mono ?_
  rintro e w1 ⟨rfl, rfl⟩
  go_wp2_with fail
  refine (A1.out _ (hr.gr g0)).mono ?_
  rintro e w1 ⟨rfl, g⟩
  replace T0 := T0.gr g
  replace g0 := g0.trans g
  clear g
  have hb1 : w.heap.size < w1.heap.size := World.block_lt_of_cell? w1 _ T0.1
  have X1 : Box2 (w1.alloc (.cells #[.int .i64 x, .int .i64 y] 37)) w1.heap.size x y := Box2.new rfl
  have g1 : Gr w (w1.alloc (.cells #[.int .i64 x, .int .i64 y] 37)) := g0.alloc _
  replace T0 := T0.gr ((Gr.refl w1).alloc (.cells #[.int .i64 x, .int .i64 y] 37))
  clear g0
  go_wp2_with fail
  refine (A2.out _ (hr.gr g1)).mono ?_
  rintro e w2 ⟨rfl, g⟩
  replace T0 := T0.gr g
  replace X1 := X1.gr g
  replace g1 := g1.trans g
  clear g
  have hb2 : w1.heap.size < w2.heap.size := World.block_lt_of_cell? w2 _ X1.1
  have X2 : Box2 (w2.alloc (.cells #[.int .i64 x, .int .i64 y] 37)) w2.heap.size x y := Box2.new rfl
  have g2 : Gr w (w2.alloc (.cells #[.int .i64 x, .int .i64 y] 37)) := g1.alloc _
  replace T0 := T0.gr ((Gr.refl w2).alloc (.cells #[.int .i64 x, .int .i64 y] 37))
  replace X1 := X1.gr ((Gr.refl w2).alloc (.cells #[.int .i64 x, .int .i64 y] 37))
  clear g1
  go_wp2_with fail
  refine (A7.out _ (hr.gr g2)).mono ?_
  rintro e w3 ⟨rfl, g⟩
  replace T0 := T0.gr g
  replace X1 := X1.gr g
  replace X2 := X2.gr g
  replace g2 := g2.trans g
  clear g
  go_wp2_with fail
  refine (A8.out _ (hr.gr g2)).mono ?_
  rintro e w4 ⟨rfl, g⟩
  replace T0 := T0.gr g
  replace X1 := X1.gr g
  replace X2 := X2.gr g
  replace g2 := g2.trans g
  clear g
  obtain ⟨s0, s1, f0, f1⟩ := id T0
  obtain ⟨s2, s3, f2, f3⟩ := id X1
  obtain ⟨s4, s5, f4, f5⟩ := id X2
  go_wp2_with fail
  clear s0 s1 f0 f1 s2 s3 f2 f3 s4 s5 f4 f5
  refine (A3.out _ (hr.gr g2)).mono ?_
  rintro e w5 ⟨rfl, g⟩
  replace T0 := T0.gr g
  replace X1 := X1.gr g
  replace X2 := X2.gr g
  replace g2 := g2.trans g
  clear g
  obtain ⟨s0, s1, f0, f1⟩ := id T0
  obtain ⟨s2, s3, f2, f3⟩ := id X1
  have hz1 : w1.heap.size < w5.heap.size := World.block_lt_of_cell? w5 _ s2
  replace T0 := T0.far (b' := w1.heap.size) (by omega) (.int .i64 p) (.int .i64 q)
  replace X1 := X1.put (x' := p) (y' := q)
  replace X2 := X2.far (b' := w1.heap.size) (by omega) (.int .i64 p) (.int .i64 q)
  replace g2 := (g2.setAt (b := w1.heap.size) (j := 0) (by omega) (.int .i64 p)).setAt (b := w1.heap.size) (j := 1) (by omega) (.int .i64 q)
  have s0' := T0.1
  have s1' := T0.2.1
  go_wp2_with fail
  clear s0 s1 f0 f1 s2 s3 f2 f3 s0' s1'
  refine (A4.out _ (hr.gr g2)).mono ?_
  rintro e w6 ⟨rfl, g⟩
  replace T0 := T0.gr g
  replace X1 := X1.gr g
  replace X2 := X2.gr g
  replace g2 := g2.trans g
  clear g
  obtain ⟨s2, s3, f2, f3⟩ := id X1
  obtain ⟨s4, s5, f4, f5⟩ := id X2
  have hz2 : w2.heap.size < w6.heap.size := World.block_lt_of_cell? w6 _ s4
  replace X1 := X1.far (b' := w2.heap.size) (by omega) (.int .i64 p) (.int .i64 q)
  replace X2 := X2.put (x' := p) (y' := q)
  replace g2 := (g2.setAt (b := w2.heap.size) (j := 0) (by omega) (.int .i64 p)).setAt (b := w2.heap.size) (j := 1) (by omega) (.int .i64 q)
  obtain ⟨r2, r3, _, _⟩ := id X1
  obtain ⟨r4, r5, _, _⟩ := id X2
  go_wp2_with fail
  clear s2 s3 f2 f3 s4 s5 f4 f5 r2 r3 r4 r5 T0
  refine (A5.out _ (hr.gr g2)).mono ?_
  rintro e w7 ⟨rfl, g⟩
  replace X1 := X1.gr g
  replace X2 := X2.gr g
  replace g2 := g2.trans g
  clear g
  obtain ⟨s2, s3, f2, f3⟩ := id X1
  have hz3 : w1.heap.size < w7.heap.size := World.block_lt_of_cell? w7 _ s2
  replace X1 := X1.put (x' := u) (y' := v)
  replace X2 := X2.far (b' := w1.heap.size) (by omega) (.int .i64 u) (.int .i64 v)
  replace g2 := (g2.setAt (b := w1.heap.size) (j := 0) (by omega) (.int .i64 u)).setAt (b := w1.heap.size) (j := 1) (by omega) (.int .i64 v)
  go_wp2_with fail
  clear s2 s3 f2 f3
  refine (A6.out _ (hr.gr g2)).mono ?_
  rintro e w8 ⟨rfl, g⟩
  replace X1 := X1.gr g
  replace X2 := X2.gr g
  replace g2 := g2.trans g
  clear g
  obtain ⟨s2, s3, f2, f3⟩ := id X1
  obtain ⟨s4, s5, f4, f5⟩ := id X2
  have hz4 : w2.heap.size < w8.heap.size := World.block_lt_of_cell? w8 _ s4
  replace X1 := X1.far (b' := w2.heap.size) (by omega) (.int .i64 u) (.int .i64 v)
  replace X2 := X2.put (x' := u) (y' := v)
  replace g2 := (g2.setAt (b := w2.heap.size) (j := 0) (by omega) (.int .i64 u)).setAt (b := w2.heap.size) (j := 1) (by omega) (.int .i64 v)
  obtain ⟨r2, r3, _, _⟩ := id X1
  obtain ⟨r4, r5, _, _⟩ := id X2
  go_wp2_with fail
  clear s2 s3 f2 f3 s4 s5 f4 f5 r2 r3 r4 r5
  refine (Awake_any _).mono ?_
  rintro e w9 ⟨rfl, g⟩
  go_wp2_with fail
  go_ret
  exact ⟨rfl, g2.trans g⟩

theorem walk (a : Option Addr) (n c : Nat) (L T : Nat → Int) (lo N D : Int) (w : World) (hn : n ≤ 9223372036854775807) (_wf : ∀ i, i < n → (Lit.int .i64 (L i)).wf = true ∧ (Lit.int .i64 (T i)).wf = true) (hr : RdM w a n L T) (_w1 : (Lit.int .i64 lo).wf = true) (_w2 : (Lit.int .i64 N).wf = true) (_w3 : (Lit.int .i64 D).wf = true) :
    Calls Try.prog 6 #[.slice a n c, .int .i64 lo, .agg #[.int .i64 N, .int .i64 D]] w (RetB true w) := by
  by_cases hs : 100 < n
  · go_enter Try.func6, Try.ntmps6
    go_wp2_with (first
      | (go_at_call 30; refine (Long_any a n c _ hn).mono ?_; rintro e w1 ⟨rfl, rfl⟩)
      | (go_at_call 17; refine (Awake_any _).mono ?_; rintro e w6 ⟨rfl, hg11⟩))
    go_ret
    exact ⟨rfl, ((Gr.refl w).alloc _).trans hg11⟩
  · exact walk_ok a n c L T lo N D w hn hr hs

set_option maxRecDepth 100000 in
theorem lifted (os : Os) (started : os.Started) (H : Type) (enc : TypeId × Value → H) :
    ReturnsInHanded {} Try.checked os 6 .any (Rows.tickTimesSpec.pre6 enc Try.prog Try.f6 Rows.tickTimesRow.domain false) (Rows.tickTimesSpec.post enc Try.prog Try.f6 false true false false) := by
  refine returnsInHanded_of_change (C := Try.checked) own started (by kernel_rfl) Try.func6
    (ChangeSpec.witness6 (enc := enc) (C := Try.checked) false ⟨#[], #[.slice none 0 0, .int .i64 0, .agg #[.int .i64 0, .int .i64 0]], []⟩ 8 (by kernel_rfl) (by kernel_rfl) (by kernel_rfl) (by kernel_rfl)) ?_
  intro W base args ds gs before hval0 hW hcnd _
  have hval : ∀ (j : Nat) t v, Try.f6.params[j]? = some t → args[j]? = some v → Value.okWide Try.prog W .any base t v := hval0
  have hW' := hW
  obtain ⟨p, q, hA0, hV, rfl, hfz, hnd⟩ := hW
  have hA : DataW.TrodAll enc Try.prog W 0 (fun _ => true) true Try.f6.params.toList args.toList ds p := hA0
  rw [Try.params6] at hA hval
  obtain ⟨v0, vs0, d0, ds0, p0, q0, hargs, rfl, rfl, h0, r0⟩ := trodAll_cons hA
  obtain ⟨v1, vs1, d1, ds1, p1, q1, rfl, rfl, rfl, h1, r1⟩ := trodAll_cons r0
  obtain ⟨v2, vs2, d2, ds2, p2, q2, rfl, rfl, rfl, h2, r2⟩ := trodAll_cons r1
  obtain ⟨rfl, rfl, rfl⟩ := trodAll_nil r2
  obtain rfl : args = #[v0, v1, v2] := by cases args; simp_all
  obtain ⟨rfl, rfl⟩ := trodVars_none hV
  obtain ⟨a0, len0, cap0, rfl⟩ := okWide_slice Try.underlying35 (hval 0 35 v0 rfl rfl)
  have k0 := h0
  have lt0 : ∀ x ∈ p0, x.block < W.heap.size := by obtain ⟨m, hm⟩ := k0; exact DataW.trod_lt m _ _ _ hm
  obtain ⟨x0, y0, wn0, wf0, wr0⟩ : ∃ f g : Nat → Int, len0 ≤ 9223372036854775807 ∧ (∀ i, i < len0 → (Lit.int .i64 (f i)).wf = true ∧ (Lit.int .i64 (g i)).wf = true) ∧ RdM W a0 len0 f g := by
    obtain ⟨fuel, hf⟩ := h0
    exact RdM.of_trod Try.underlying35 Try.underlying64 (by kernel_rfl) ⟨rfl, rfl⟩ ⟨rfl, rfl⟩ (by kernel_rfl) Try.underlying3 hf
  obtain ⟨a1, rfl, rfl, rfl, w1⟩ := open_int Try.underlying3 (hval 1 3 v1 rfl rfl) h1
  have k2 := h2
  have lt2 : ∀ x ∈ p2, x.block < W.heap.size := by obtain ⟨m, hm⟩ := k2; exact DataW.trod_lt m _ _ _ hm
  obtain ⟨x2, y2, rfl, wx2, wy2⟩ := open_pair Try.underlying37 (by kernel_rfl) (by kernel_rfl) rfl rfl Try.underlying3 (hval 2 37 v2 rfl rfl) h2
  clear hA0 hval0
  refine (walk a0 len0 cap0 x0 y0 a1 x2 y2 W wn0 wf0 wr0 w1 wx2 wy2).mono fun e W' ⟨he, bel⟩ => ?_
  subst he
  exact ⟨_, rfl, _, _, _, [], _, [], hW', trodAll_mk1 (shut_bool Try.underlying4 _), (trodAll_cons_mk (Below.trod laidOut (by kernel_rfl) (of_decide_eq_true (by kernel_rfl)) k0 bel lt0) (trodAll_cons_mk (shut_int Try.underlying3 w1) (trodAll_cons_mk (Below.trod laidOut (by kernel_rfl) (of_decide_eq_true (by kernel_rfl)) k2 bel lt2) trodAll_mk0))), rfl, bel.frame _, fun h => by cases h⟩

theorem over : Rows.tickTimesRow.holds Try.pinned (OpenSpec.ofChange Rows.tickTimesSpec) :=
  OpenClaim.holds_of_wide 6 Try.f6 rfl rfl rfl rfl rfl rfl rfl ⟨rfl, rfl, rfl, rfl, rfl⟩ rfl rfl rfl rfl rfl (by kernel_rfl) Try.func6 (by kernel_rfl)
    (of_decide_eq_true (by kernel_rfl)) (by unfold Func.isWrapper; first | (rw [if_pos (by decide +kernel)]; kernel_rfl) | (rw [if_neg (by decide +kernel)]; exact ⟨rfl, rfl⟩))
    (fun os started H enc _ => lifted os started H enc)

/-- The statement. -/
theorem proved : Rows.TickTimesSaid := over
end Go.Proofs.Ytdlbgelidcfmiaa.tickTimes
