/- Proved: TickGrows returns true at every clock and local time, and its arguments read afterwards as before. Conditions: none. -/
import Derived.Test.YtdlbgelidcfmiaaP10
import Derived.ProofKit
import Derived.OpenShut
import Derived.ShutString
import Derived.ChangeOld
import Derived.Below
namespace Go.Proofs.Ytdlbgelidcfmiaa.tickGrows
open Go.ChangeShapes Go.WideShapes Go.ChangeAt Go.RowKit Go.Firn

theorem own : ownKnob Try.prog.godebug = none := by kernel_rfl
theorem laidOut : laidOutB Try.prog = true := by kernel_rfl

set_option maxRecDepth 100000 in
set_option maxHeartbeats 2000000 in
theorem walk_ok (a : Option Addr) (n c : Nat) (L T : Nat → Int) (lo : Int) (w : World) (hn : n ≤ 9223372036854775807) (hr : RdM w a n L T) (hs : ¬ 100 < n) (hv : vK n L T = true) (hl : 0 ≤ lo ∧ lo ≤ 4294967295) :
    Calls Try.prog 9 #[.slice a n c, .int .u32 lo] w (RetB true w) := by
  obtain ⟨l1, l2⟩ := hl
  have x1 : 0 ≤ lo % 100000 ∧ lo % 100000 ≤ 99999 := by omega
  have hx := Lib.hid (show btw 0 (lo % 100000) 100000 = true from btw_true.2 (by omega))
  have hx' := Lib.hid (show btw 0 (lo % 100000 + 1) 100000 = true from btw_true.2 (by omega))
  have Hv := Lib.hid hv
  have h2 := (vK_true.1 hv).1
  have A1 := Lib.hid (fun (w1 : World) (h : RdM w1 a n L T) => show Calls Try.prog 31 #[.slice a n c, .int .i64 (lo % 100000)] w1 (RetRE (AN n L T (lo % 100000)) (AD n L T (lo % 100000)) 0 w1) by
    have := At_any a n c L T (lo % 100000) w1 hn h; rw [Hv.out, hx.out] at this; exact this)
  have A2 := Lib.hid (fun (w1 : World) (h : RdM w1 a n L T) => show Calls Try.prog 31 #[.slice a n c, .int .i64 (lo % 100000 + 1)] w1 (RetRE (AN n L T (lo % 100000 + 1)) (AD n L T (lo % 100000 + 1)) 0 w1) by
    have := At_any a n c L T (lo % 100000 + 1) w1 hn h; rw [Hv.out, hx'.out] at this; exact this)
  have A3 := Lib.hid (fun (w1 : World) (h : RdM w1 a n L T) => show Calls Try.prog 37 #[.slice a n c, .int .i64 (lo % 100000)] w1 (RetRE (SN n L T (lo % 100000)) (SD n L T (lo % 100000)) 0 w1) by
    have := Speed_any a n c L T (lo % 100000) w1 hn h; rw [Hv.out, hx.out] at this; exact this)
  have A4 := Lib.hid (fun (w1 : World) (h : RdM w1 a n L T) => show Calls Try.prog 42 #[.slice a n c] w1 (RetRRE (sF L T (mnI (sF L T) (sG L T) (n - 2))) (sG L T (mnI (sF L T) (sG L T) (n - 2))) (sF L T (mxI (sF L T) (sG L T) (n - 2))) (sG L T (mxI (sF L T) (sG L T) (n - 2))) 0 w1) by
    have := Speeds_any a n c L T w1 hn h; rw [Hv.out] at this; exact this)
  have b1 := AN_bd (x := lo % 100000) hv (by omega)
  have b2 := AD_bd (lo % 100000) hv
  have b3 := AN_bd (x := lo % 100000 + 1) hv (by omega)
  have b4 := AD_bd (lo % 100000 + 1) hv
  have st := step_speed (lo % 100000) hv
  have il := ix_le (pA L (lo % 100000)) n
  have lm := mnI_le (sF L T) (sG L T) (n - 2)
  have lx := mxI_le (sF L T) (sG L T) (n - 2)
  have bU := sFG_bd hv (i := ix (pA L (lo % 100000)) n) (by omega)
  have bm := sFG_bd hv (i := mnI (sF L T) (sG L T) (n - 2)) (by omega)
  have bx := sFG_bd hv (i := mxI (sF L T) (sG L T) (n - 2)) (by omega)
  have mm := mn_min (f := sF L T) (g := sG L T) (k := n - 2) (fun i hi => (sFG_bd hv (i := i) (by omega)).2.1) _ il
  have mx := mx_max (f := sF L T) (g := sG L T) (k := n - 2) (fun i hi => (sFG_bd hv (i := i) (by omega)).2.1) _ il
  change (0 < SN n L T (lo % 100000) ∧ SN n L T (lo % 100000) ≤ 100000) ∧ 0 < SD n L T (lo % 100000) ∧ SD n L T (lo % 100000) ≤ 100000 at bU
  change _ * SD n L T (lo % 100000) ≤ SN n L T (lo % 100000) * _ at mm
  change SN n L T (lo % 100000) * _ ≤ _ * SD n L T (lo % 100000) at mx
  generalize AN n L T (lo % 100000) = N at *
  generalize AD n L T (lo % 100000) = D at *
  generalize AN n L T (lo % 100000 + 1) = M at *
  generalize AD n L T (lo % 100000 + 1) = E at *
  generalize SN n L T (lo % 100000) = U at *
  generalize SD n L T (lo % 100000) = V at *
  generalize sF L T (mnI (sF L T) (sG L T) (n - 2)) = p at *
  generalize sG L T (mnI (sF L T) (sG L T) (n - 2)) = q at *
  generalize sF L T (mxI (sF L T) (sG L T) (n - 2)) = r at *
  generalize sG L T (mxI (sF L T) (sG L T) (n - 2)) = s at *
  have m1 := mul_bd (a := M) (b := D) (A := 40000000000) (B := 100000) (by omega) (by omega) (by omega) (by omega)
  have m2 := mul_bd (a := N) (b := E) (A := 40000000000) (B := 100000) (by omega) (by omega) (by omega) (by omega)
  have m3 := mul_bd (a := D) (b := E) (A := 100000) (B := 100000) (by omega) (by omega) (by omega) (by omega)
  have m4 := mul_bd (a := U) (b := q) (A := 100000) (B := 100000) (by omega) (by omega) (by omega) (by omega)
  have m5 := mul_bd (a := p) (b := V) (A := 100000) (B := 100000) (by omega) (by omega) (by omega) (by omega)
  have m6 := mul_bd (a := U) (b := s) (A := 100000) (B := 100000) (by omega) (by omega) (by omega) (by omega)
  have m7 := mul_bd (a := r) (b := V) (A := 100000) (B := 100000) (by omega) (by omega) (by omega) (by omega)
  have m8 : 0 < D * E := Int.mul_pos (by omega) (by omega)
  have q1 : IntKind.i64.wrap (M * D) = M * D := IntWalk.i64_in _ (by omega)
  have q2 : IntKind.i64.wrap (N * E) = N * E := IntWalk.i64_in _ (by omega)
  have q3 : IntKind.i64.wrap (M * D - N * E) = M * D - N * E := IntWalk.i64_in _ (by omega)
  have q4 : IntKind.i64.wrap (D * E) = D * E := IntWalk.i64_in _ (by omega)
  have A5 := Lib.hid (fun (w1 : World) => show Calls Try.prog 43 #[.int .i64 (M * D - N * E), .int .i64 (D * E)] w1 (RetR U V w1) by
    have := Ratio_any (M * D - N * E) (D * E) w1 (Sz.of (by omega) (by omega)) (Sz.of (by omega) (by omega)) m8; rw [st.1, st.2] at this; exact this)
  have A6 := Lib.hid (fun (w1 : World) => show Calls Try.prog 44 #[.agg #[.int .i64 U, .int .i64 V], .agg #[.int .i64 p, .int .i64 q]] w1 (RetB false w1) by
    have := refLess_any U V p q w1 (by omega) (by omega); rwa [show decide (U * q < p * V) = false by simp; omega] at this)
  have A7 := Lib.hid (fun (w1 : World) => show Calls Try.prog 44 #[.agg #[.int .i64 r, .int .i64 s], .agg #[.int .i64 U, .int .i64 V]] w1 (RetB false w1) by
    have := refLess_any r s U V w1 (by omega) (by omega); rwa [show decide (r * V < U * s) = false by simp; omega] at this)
  have d1 : decide (D < 1) = false := by simp; omega
  have d2 : decide (E < 1) = false := by simp; omega
  have d3 : decide (100000 < D) = false := by simp; omega
  have d4 : decide (100000 < E) = false := by simp; omega
  have d5 : decide (0 < U) = true := by simp; omega
  generalize hlo : lo % 100000 = x at *
  have Hlo := Lib.hid hlo
  have k1 : IntKind.i64.wrap (x + 1) = x + 1 := IntWalk.i64_in _ (by omega)
  clear hv hx hx' hlo b1 b2 b3 b4 st il lm lx bU bm bx mm mx m1 m2 m3 m4 m5 m6 m7 m8 h2
  obtain ⟨x2, x3⟩ := x1
  go_enter Try.func9, Try.ntmps9
  go_wp2_with fail
  refine (Long_any a n c _ hn).mono ?_
  rintro e w1 ⟨rfl, rfl⟩
  go_wp2_with fail
  refine (refValidClock_any a n c L T _ hn hr).mono ?_
  rintro e w1 ⟨rfl, g⟩
  rw [Hv.out]
  go_wp2_with fail
  rw [Hlo.out]
  refine (A1.out _ (hr.gr g)).mono ?_
  rintro e w2 ⟨rfl, g2⟩
  replace g := g.trans g2
  clear g2
  have X1 : Box2 (w2.alloc (.cells #[.int .i64 N, .int .i64 D] 37)) w2.heap.size N D := Box2.new rfl
  replace g := g.alloc (.cells #[.int .i64 N, .int .i64 D] 37)
  go_wp2_with fail
  try rw [Hlo.out]
  try rw [k1]
  refine (A2.out _ (hr.gr g)).mono ?_
  rintro e w3 ⟨rfl, g2⟩
  replace g := g.trans g2
  replace X1 := X1.gr g2
  clear g2
  have X2 : Box2 (w3.alloc (.cells #[.int .i64 M, .int .i64 E] 37)) w3.heap.size M E := Box2.new rfl
  have ga := (Gr.refl w3).alloc (.cells #[.int .i64 M, .int .i64 E] 37)
  replace g := g.trans ga
  replace X1 := X1.gr ga
  clear ga
  go_wp2_with fail
  refine (A4.out _ (hr.gr g)).mono ?_
  rintro e w4 ⟨rfl, g2⟩
  replace g := g.trans g2
  replace X1 := X1.gr g2
  replace X2 := X2.gr g2
  clear g2
  go_wp2_with fail
  have X3 : Box2 ((w4.alloc (.cells #[.int .i64 p, .int .i64 q] 37)).alloc (.cells #[.int .i64 r, .int .i64 s] 37)) w4.heap.size p q := (Box2.new rfl).gr ((Gr.refl _).alloc _)
  have X4 : Box2 ((w4.alloc (.cells #[.int .i64 p, .int .i64 q] 37)).alloc (.cells #[.int .i64 r, .int .i64 s] 37)) (w4.heap.size + 1) r s := Box2.new (by simp)
  have ga := ((Gr.refl w4).alloc (.cells #[.int .i64 p, .int .i64 q] 37)).alloc (.cells #[.int .i64 r, .int .i64 s] 37)
  replace g := g.trans ga
  replace X1 := X1.gr ga
  replace X2 := X2.gr ga
  clear ga
  refine (A3.out _ (hr.gr g)).mono ?_
  rintro e w5 ⟨rfl, g2⟩
  replace g := g.trans g2
  replace X1 := X1.gr g2
  replace X2 := X2.gr g2
  replace X3 := X3.gr g2
  replace X4 := X4.gr g2
  clear g2
  have X5 : Box2 (w5.alloc (.cells #[.int .i64 U, .int .i64 V] 37)) w5.heap.size U V := Box2.new rfl
  have ga := (Gr.refl w5).alloc (.cells #[.int .i64 U, .int .i64 V] 37)
  replace g := g.trans ga
  replace X1 := X1.gr ga
  replace X2 := X2.gr ga
  replace X3 := X3.gr ga
  replace X4 := X4.gr ga
  clear ga
  have Y1 := Lib.hid X1
  have Y2 := Lib.hid X2
  have Y3 := Lib.hid X3
  have Y4 := Lib.hid X4
  have Y5 := Lib.hid X5
  obtain ⟨s0, s1, f0, f1⟩ := id X1
  obtain ⟨s2, s3, f2, f3⟩ := id X2
  clear X1 X2 X3 X4 X5
  go_wp2_with fail
  refine (A5.out _).mono ?_
  rintro e w6 ⟨rfl, g2⟩
  replace g := g.trans g2
  replace Y3 := Lib.hid (Y3.out.gr g2)
  replace Y4 := Lib.hid (Y4.out.gr g2)
  replace Y5 := Lib.hid (Y5.out.gr g2)
  clear g2 Y1 Y2 s0 s1 f0 f1 s2 s3 f2 f3
  have X6 : Box2 (w6.alloc (.cells #[.int .i64 U, .int .i64 V] 37)) w6.heap.size U V := Box2.new rfl
  have ga := (Gr.refl w6).alloc (.cells #[.int .i64 U, .int .i64 V] 37)
  replace g := g.trans ga
  replace Y3 := Lib.hid (Y3.out.gr ga)
  replace Y4 := Lib.hid (Y4.out.gr ga)
  replace Y5 := Lib.hid (Y5.out.gr ga)
  clear ga
  obtain ⟨s0, s1, f0, f1⟩ := id X6
  obtain ⟨s2, s3, f2, f3⟩ := id Y5.out
  obtain ⟨s4, s5, f4, f5⟩ := id Y3.out
  go_wp2_with fail
  refine (A6.out _).mono ?_
  rintro e w7 ⟨rfl, g2⟩
  replace g := g.trans g2
  replace Y4 := Lib.hid (Y4.out.gr g2)
  replace Y5 := Lib.hid (Y5.out.gr g2)
  clear g2 X6 Y3 s0 s1 f0 f1 s2 s3 f2 f3 s4 s5 f4 f5
  obtain ⟨s2, s3, f2, f3⟩ := id Y5.out
  obtain ⟨s4, s5, f4, f5⟩ := id Y4.out
  go_wp2_with fail
  refine (A7.out _).mono ?_
  rintro e w8 ⟨rfl, g2⟩
  replace g := g.trans g2
  replace Y5 := Lib.hid (Y5.out.gr g2)
  clear g2 Y4 s2 s3 f2 f3 s4 s5 f4 f5
  obtain ⟨s2, s3, f2, f3⟩ := id Y5.out
  go_wp2_with fail
  refine (Awake_any _).mono ?_
  rintro e w9 ⟨rfl, g2⟩
  go_wp2_with fail
  go_ret
  exact ⟨rfl, g.trans g2⟩

theorem walk (a : Option Addr) (n c : Nat) (L T : Nat → Int) (lo : Int) (w : World) (hn : n ≤ 9223372036854775807) (_wf : ∀ i, i < n → (Lit.int .i64 (L i)).wf = true ∧ (Lit.int .i64 (T i)).wf = true) (hr : RdM w a n L T) (w1 : (Lit.int .u32 lo).wf = true) :
    Calls Try.prog 9 #[.slice a n c, .int .u32 lo] w (RetB true w) := by
  have hl : 0 ≤ lo ∧ lo ≤ 4294967295 := by
    simp [Lit.wf, IntKind.min, IntKind.max, IntKind.signed, IntKind.bits] at w1
    omega
  by_cases hs : 100 < n
  · go_enter Try.func9, Try.ntmps9
    go_wp2_with (first
      | (go_at_call 30; refine (Long_any a n c _ hn).mono ?_; rintro e w1 ⟨rfl, rfl⟩)
      | (go_at_call 17; refine (Awake_any _).mono ?_; rintro e w6 ⟨rfl, hg11⟩))
    go_ret
    exact ⟨rfl, hg11⟩
  · by_cases hv : vK n L T = true
    · exact walk_ok a n c L T lo w hn hr hs hv hl
    · have hv' := Lib.hid (Bool.eq_false_iff.2 hv)
      clear hv
      go_enter Try.func9, Try.ntmps9
      go_wp2_with fail
      refine (Long_any a n c _ hn).mono ?_
      rintro e w1 ⟨rfl, rfl⟩
      go_wp2_with fail
      refine (refValidClock_any a n c L T _ hn hr).mono ?_
      rintro e w1 ⟨rfl, g⟩
      rw [hv'.out]
      go_wp2_with fail
      refine (Awake_any _).mono ?_
      rintro e w6 ⟨rfl, g2⟩
      go_wp2_with fail
      go_ret
      exact ⟨rfl, g.trans g2⟩

set_option maxRecDepth 100000 in
theorem lifted (os : Os) (started : os.Started) (H : Type) (enc : TypeId × Value → H) :
    ReturnsInHanded {} Try.checked os 9 .any (Rows.tickGrowsSpec.pre6 enc Try.prog Try.f9 Rows.tickGrowsRow.domain false) (Rows.tickGrowsSpec.post enc Try.prog Try.f9 false true false false) := by
  refine returnsInHanded_of_change (C := Try.checked) own started (by kernel_rfl) Try.func9
    (ChangeSpec.witness6 (enc := enc) (C := Try.checked) false ⟨#[], #[.slice none 0 0, .int .u32 0], []⟩ 8 (by kernel_rfl) (by kernel_rfl) (by kernel_rfl) (by kernel_rfl)) ?_
  intro W base args ds gs before hval0 hW hcnd _
  have hval : ∀ (j : Nat) t v, Try.f9.params[j]? = some t → args[j]? = some v → Value.okWide Try.prog W .any base t v := hval0
  have hW' := hW
  obtain ⟨p, q, hA0, hV, rfl, hfz, hnd⟩ := hW
  have hA : DataW.TrodAll enc Try.prog W 0 (fun _ => true) true Try.f9.params.toList args.toList ds p := hA0
  rw [Try.params9] at hA hval
  obtain ⟨v0, vs0, d0, ds0, p0, q0, hargs, rfl, rfl, h0, r0⟩ := trodAll_cons hA
  obtain ⟨v1, vs1, d1, ds1, p1, q1, rfl, rfl, rfl, h1, r1⟩ := trodAll_cons r0
  obtain ⟨rfl, rfl, rfl⟩ := trodAll_nil r1
  obtain rfl : args = #[v0, v1] := by cases args; simp_all
  obtain ⟨rfl, rfl⟩ := trodVars_none hV
  obtain ⟨a0, len0, cap0, rfl⟩ := okWide_slice Try.underlying35 (hval 0 35 v0 rfl rfl)
  have k0 := h0
  have lt0 : ∀ x ∈ p0, x.block < W.heap.size := by obtain ⟨m, hm⟩ := k0; exact DataW.trod_lt m _ _ _ hm
  obtain ⟨x0, y0, wn0, wf0, wr0⟩ : ∃ f g : Nat → Int, len0 ≤ 9223372036854775807 ∧ (∀ i, i < len0 → (Lit.int .i64 (f i)).wf = true ∧ (Lit.int .i64 (g i)).wf = true) ∧ RdM W a0 len0 f g := by
    obtain ⟨fuel, hf⟩ := h0
    exact RdM.of_trod Try.underlying35 Try.underlying64 (by kernel_rfl) ⟨rfl, rfl⟩ ⟨rfl, rfl⟩ (by kernel_rfl) Try.underlying3 hf
  obtain ⟨a1, rfl, rfl, rfl, w1⟩ := open_int Try.underlying43 (hval 1 43 v1 rfl rfl) h1
  clear hA0 hval0
  refine (walk a0 len0 cap0 x0 y0 a1 W wn0 wf0 wr0 w1).mono fun e W' ⟨he, bel⟩ => ?_
  subst he
  exact ⟨_, rfl, _, _, _, [], _, [], hW', trodAll_mk1 (shut_bool Try.underlying4 _), (trodAll_cons_mk (Below.trod laidOut (by kernel_rfl) (of_decide_eq_true (by kernel_rfl)) k0 bel lt0) (trodAll_cons_mk (shut_int Try.underlying43 w1) trodAll_mk0)), rfl, bel.frame _, fun h => by cases h⟩

theorem over : Rows.tickGrowsRow.holds Try.pinned (OpenSpec.ofChange Rows.tickGrowsSpec) :=
  OpenClaim.holds_of_wide 9 Try.f9 rfl rfl rfl rfl rfl rfl rfl ⟨rfl, rfl, rfl, rfl, rfl⟩ rfl rfl rfl rfl rfl (by kernel_rfl) Try.func9 (by kernel_rfl)
    (of_decide_eq_true (by kernel_rfl)) (by unfold Func.isWrapper; first | (rw [if_pos (by decide +kernel)]; kernel_rfl) | (rw [if_neg (by decide +kernel)]; exact ⟨rfl, rfl⟩))
    (fun os started H enc _ => lifted os started H enc)

/-- The statement. -/
theorem proved : Rows.TickGrowsSaid := over
end Go.Proofs.Ytdlbgelidcfmiaa.tickGrows
