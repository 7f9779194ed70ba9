/- Proved: TickBacks returns true at every clock and local time, and its arguments read afterwards as before. Conditions: none. -/
import Derived.Test.YtdlbgelidcfmiaaW20
import Derived.Test.YtdlbgelidcfmiaaP8
import Derived.ProofKit
import Derived.OpenShut
import Derived.ShutString
import Derived.ChangeOld
import Derived.Below
namespace Go.Proofs.Ytdlbgelidcfmiaa.tickBacks
open Go.ChangeShapes Go.WideShapes Go.ChangeAt Go.RowKit Go.Firn

theorem own : ownKnob Try.prog.godebug = none := by kernel_rfl
theorem laidOut : laidOutB Try.prog = true := by kernel_rfl

set_option maxRecDepth 100000 in
set_option maxHeartbeats 2000000 in
theorem walk_ok (a : Option Addr) (n c : Nat) (L T : Nat → Int) (lo : Int) (w : World) (hn : n ≤ 9223372036854775807) (hr : RdM w a n L T) (hs : ¬ 100 < n) (hv : vK n L T = true) (hl : 0 ≤ lo ∧ lo ≤ 4294967295) :
    Calls Try.prog 8 #[.slice a n c, .int .u32 lo] w (RetB true w) := by
  obtain ⟨l1, l2⟩ := hl
  have x1 : 0 ≤ lo % 100001 ∧ lo % 100001 ≤ 100000 := by omega
  have hx := Lib.hid (show btw 0 (lo % 100001) 100000 = true from btw_true.2 x1)
  have Hv := Lib.hid hv
  have Hv' := Lib.hid (show vK n T L = true by rw [vK_swap]; exact hv)
  have bo := Lib.hid (back_of_at (x := lo % 100001) hv)
  have bk := Lib.hid (bkR_at (x := lo % 100001) hv (by omega))
  have ai := Lib.hid (at_inverse n L T (lo % 100001))
  have bx := Lib.hid (show bkR (lo % 100001) 1 = true by rw [bkR_true]; omega)
  have A1 := Lib.hid (fun (w1 : World) (h : RdM w1 a n L T) => show Calls Try.prog 31 #[.slice a n c, .int .i64 (lo % 100001)] w1 (RetRE (AN n L T (lo % 100001)) (AD n L T (lo % 100001)) 0 w1) by
    have := At_any a n c L T (lo % 100001) w1 hn h; rw [Hv.out, hx.out] at this; exact this)
  have A2 := Lib.hid (fun (w1 : World) (h : RdM w1 a n L T) => show Calls Try.prog 35 #[.slice a n c, .agg #[.int .i64 (AN n L T (lo % 100001)), .int .i64 (AD n L T (lo % 100001))]] w1 (RetRE (lo % 100001) 1 0 w1) by
    have := Back_any a n c L T (AN n L T (lo % 100001)) (AD n L T (lo % 100001)) w1 hn h; rw [Hv.out, bk.out, bo.out.1, bo.out.2] at this; exact this)
  have A3 := Lib.hid (fun (w1 : World) (a' : Option Addr) (c' : Nat) (h : RdM w1 a' n T L) => show Calls Try.prog 35 #[.slice a' n c', .agg #[.int .i64 (lo % 100001), .int .i64 1]] w1 (RetRE (AN n L T (lo % 100001)) (AD n L T (lo % 100001)) 0 w1) by
    have := Back_any a' n c' T L (lo % 100001) 1 w1 hn h; rw [Hv'.out, bx.out, ai.out.1, ai.out.2] at this; exact this)
  have A4 := Lib.hid (fun (w1 : World) (h : RdM w1 a n L T) => show Calls Try.prog 41 #[.slice a n c] w1 (RetMf n T L 0 w1) by
    have := Inverse_any a n c L T w1 hn h; rw [Hv.out] at this; exact this.mono fun _ _ h => h.mf)
  have A5 := Lib.hid (fun (w1 : World) (a' : Option Addr) (c' : Nat) (h : RdM w1 a' n T L) => show Calls Try.prog 41 #[.slice a' n c'] w1 (RetMf n L T 0 w1) by
    have := Inverse_any a' n c' T L w1 hn h; rw [Hv'.out] at this; exact this.mono fun _ _ h => h.mf)
  have q := Lib.hid (show eqM n n L T L T = true from eqM_true.2 ⟨rfl, fun _ _ => ⟨rfl, rfl⟩⟩)
  generalize AN n L T (lo % 100001) = N at *
  generalize AD n L T (lo % 100001) = D at *
  generalize hlo : lo % 100001 = x at *
  have Hlo := Lib.hid hlo
  clear hv hx bo bk ai bx hlo
  obtain ⟨x2, x3⟩ := x1
  go_enter Try.func8, Try.ntmps8
  go_wp2_with fail
  refine (Long_any a n c _ hn).mono ?_
  rintro e w1 ⟨rfl, rfl⟩
  go_wp2_with fail
  refine (refValidClock_any a n c L T _ hn hr).mono ?_
  rintro e w1 ⟨rfl, g⟩
  rw [Hv.out]
  go_wp2_with fail
  rw [Hlo.out]
  refine (A1.out _ (hr.gr g)).mono ?_
  rintro e w2 ⟨rfl, g2⟩
  have g3 : Gr w w2 := g.trans g2
  clear g g2
  have T0 : Box2 (w2.alloc (.cells #[.int .i64 N, .int .i64 D] 37)) w2.heap.size N D := Box2.new rfl
  have g4 : Gr w (w2.alloc (.cells #[.int .i64 N, .int .i64 D] 37)) := g3.alloc _
  clear g3
  obtain ⟨s0, s1, f0, f1⟩ := id T0
  go_wp2_with fail
  clear s0 s1 f0 f1
  refine (A2.out _ (hr.gr g4)).mono ?_
  rintro e w3 ⟨rfl, g⟩
  replace T0 := T0.gr g
  replace g4 := g4.trans g
  clear g
  have hb1 : w2.heap.size < w3.heap.size := World.block_lt_of_cell? w3 _ T0.1
  have X1 : Box2 (w3.alloc (.cells #[.int .i64 x, .int .i64 1] 37)) w3.heap.size x 1 := Box2.new rfl
  replace g4 : Gr w (w3.alloc (.cells #[.int .i64 x, .int .i64 1] 37)) := g4.alloc _
  replace T0 := T0.gr ((Gr.refl w3).alloc (.cells #[.int .i64 x, .int .i64 1] 37))
  go_wp2_with fail
  refine (A4.out _ (hr.gr g4)).mono ?_
  rintro e w4 ⟨a1, c1, rfl, i1, i2, ri, g⟩
  replace T0 := T0.gr g
  replace X1 := X1.gr g
  replace g4 := g4.trans g
  clear g
  go_wp2_with fail
  refine (A3.out _ _ _ ri).mono ?_
  rintro e w5 ⟨rfl, g⟩
  replace T0 := T0.gr g
  replace X1 := X1.gr g
  replace g4 := g4.trans g
  replace ri := ri.gr g
  clear g
  have hb2 : w3.heap.size < w5.heap.size := World.block_lt_of_cell? w5 _ X1.1
  have X2 : Box2 (w5.alloc (.cells #[.int .i64 N, .int .i64 D] 37)) w5.heap.size N D := Box2.new rfl
  replace g4 : Gr w (w5.alloc (.cells #[.int .i64 N, .int .i64 D] 37)) := g4.alloc _
  have ga := (Gr.refl w5).alloc (.cells #[.int .i64 N, .int .i64 D] 37)
  replace T0 := T0.gr ga
  replace X1 := X1.gr ga
  replace ri := ri.gr ga
  clear ga
  go_wp2_with fail
  refine (A5.out _ _ _ ri).mono ?_
  rintro e w6 ⟨a2, c2, rfl, j1, j2, rj, g⟩
  replace T0 := T0.gr g
  replace X1 := X1.gr g
  replace X2 := X2.gr g
  replace g4 := g4.trans g
  clear g ri
  obtain ⟨s0, s1, f0, f1⟩ := id T0
  obtain ⟨s2, s3, f2, f3⟩ := id X1
  obtain ⟨s4, s5, f4, f5⟩ := id X2
  go_wp2_with fail
  clear s0 s1 f0 f1 s2 s3 f2 f3 s4 s5 f4 f5
  have E1 := Equal_q a2 a n c2 n c L T L T w6 hn hn rj (hr.gr g4)
  rw [q.out] at E1
  refine E1.mono ?_
  rintro e w7 ⟨rfl, m, rfl⟩
  have g5 := g4.trans ((Gr.refl w6).drewN m)
  generalize w6.drewN m = w7 at *
  clear g4
  go_wp2_with fail
  refine (Awake_any _).mono ?_
  rintro e w9 ⟨rfl, g⟩
  go_wp2_with fail
  go_ret
  exact ⟨rfl, g5.trans g⟩

theorem walk (a : Option Addr) (n c : Nat) (L T : Nat → Int) (lo : Int) (w : World) (hn : n ≤ 9223372036854775807) (_wf : ∀ i, i < n → (Lit.int .i64 (L i)).wf = true ∧ (Lit.int .i64 (T i)).wf = true) (hr : RdM w a n L T) (w1 : (Lit.int .u32 lo).wf = true) :
    Calls Try.prog 8 #[.slice a n c, .int .u32 lo] w (RetB true w) := by
  have hl : 0 ≤ lo ∧ lo ≤ 4294967295 := by
    simp [Lit.wf, IntKind.min, IntKind.max, IntKind.signed, IntKind.bits] at w1
    omega
  by_cases hs : 100 < n
  · go_enter Try.func8, Try.ntmps8
    go_wp2_with (first
      | (go_at_call 30; refine (Long_any a n c _ hn).mono ?_; rintro e w1 ⟨rfl, rfl⟩)
      | (go_at_call 17; refine (Awake_any _).mono ?_; rintro e w6 ⟨rfl, hg11⟩))
    go_ret
    exact ⟨rfl, hg11⟩
  · by_cases hv : vK n L T = true
    · exact walk_ok a n c L T lo w hn hr hs hv hl
    · have hv' := Lib.hid (Bool.eq_false_iff.2 hv)
      clear hv
      go_enter Try.func8, Try.ntmps8
      go_wp2_with fail
      refine (Long_any a n c _ hn).mono ?_
      rintro e w1 ⟨rfl, rfl⟩
      go_wp2_with fail
      refine (refValidClock_any a n c L T _ hn hr).mono ?_
      rintro e w1 ⟨rfl, g⟩
      rw [hv'.out]
      go_wp2_with fail
      refine (Awake_any _).mono ?_
      rintro e w6 ⟨rfl, g2⟩
      go_wp2_with fail
      go_ret
      exact ⟨rfl, g.trans g2⟩

set_option maxRecDepth 100000 in
theorem lifted (os : Os) (started : os.Started) (H : Type) (enc : TypeId × Value → H) :
    ReturnsInHanded {} Try.checked os 8 .any (Rows.tickBacksSpec.pre6 enc Try.prog Try.f8 Rows.tickBacksRow.domain false) (Rows.tickBacksSpec.post enc Try.prog Try.f8 false true false false) := by
  refine returnsInHanded_of_change (C := Try.checked) own started (by kernel_rfl) Try.func8
    (ChangeSpec.witness6 (enc := enc) (C := Try.checked) false ⟨#[], #[.slice none 0 0, .int .u32 0], []⟩ 8 (by kernel_rfl) (by kernel_rfl) (by kernel_rfl) (by kernel_rfl)) ?_
  intro W base args ds gs before hval0 hW hcnd _
  have hval : ∀ (j : Nat) t v, Try.f8.params[j]? = some t → args[j]? = some v → Value.okWide Try.prog W .any base t v := hval0
  have hW' := hW
  obtain ⟨p, q, hA0, hV, rfl, hfz, hnd⟩ := hW
  have hA : DataW.TrodAll enc Try.prog W 0 (fun _ => true) true Try.f8.params.toList args.toList ds p := hA0
  rw [Try.params8] at hA hval
  obtain ⟨v0, vs0, d0, ds0, p0, q0, hargs, rfl, rfl, h0, r0⟩ := trodAll_cons hA
  obtain ⟨v1, vs1, d1, ds1, p1, q1, rfl, rfl, rfl, h1, r1⟩ := trodAll_cons r0
  obtain ⟨rfl, rfl, rfl⟩ := trodAll_nil r1
  obtain rfl : args = #[v0, v1] := by cases args; simp_all
  obtain ⟨rfl, rfl⟩ := trodVars_none hV
  obtain ⟨a0, len0, cap0, rfl⟩ := okWide_slice Try.underlying35 (hval 0 35 v0 rfl rfl)
  have k0 := h0
  have lt0 : ∀ x ∈ p0, x.block < W.heap.size := by obtain ⟨m, hm⟩ := k0; exact DataW.trod_lt m _ _ _ hm
  obtain ⟨x0, y0, wn0, wf0, wr0⟩ : ∃ f g : Nat → Int, len0 ≤ 9223372036854775807 ∧ (∀ i, i < len0 → (Lit.int .i64 (f i)).wf = true ∧ (Lit.int .i64 (g i)).wf = true) ∧ RdM W a0 len0 f g := by
    obtain ⟨fuel, hf⟩ := h0
    exact RdM.of_trod Try.underlying35 Try.underlying64 (by kernel_rfl) ⟨rfl, rfl⟩ ⟨rfl, rfl⟩ (by kernel_rfl) Try.underlying3 hf
  obtain ⟨a1, rfl, rfl, rfl, w1⟩ := open_int Try.underlying43 (hval 1 43 v1 rfl rfl) h1
  clear hA0 hval0
  refine (walk a0 len0 cap0 x0 y0 a1 W wn0 wf0 wr0 w1).mono fun e W' ⟨he, bel⟩ => ?_
  subst he
  exact ⟨_, rfl, _, _, _, [], _, [], hW', trodAll_mk1 (shut_bool Try.underlying4 _), (trodAll_cons_mk (Below.trod laidOut (by kernel_rfl) (of_decide_eq_true (by kernel_rfl)) k0 bel lt0) (trodAll_cons_mk (shut_int Try.underlying43 w1) trodAll_mk0)), rfl, bel.frame _, fun h => by cases h⟩

theorem over : Rows.tickBacksRow.holds Try.pinned (OpenSpec.ofChange Rows.tickBacksSpec) :=
  OpenClaim.holds_of_wide 8 Try.f8 rfl rfl rfl rfl rfl rfl rfl ⟨rfl, rfl, rfl, rfl, rfl⟩ rfl rfl rfl rfl rfl (by kernel_rfl) Try.func8 (by kernel_rfl)
    (of_decide_eq_true (by kernel_rfl)) (by unfold Func.isWrapper; first | (rw [if_pos (by decide +kernel)]; kernel_rfl) | (rw [if_neg (by decide +kernel)]; exact ⟨rfl, rfl⟩))
    (fun os started H enc _ => lifted os started H enc)

/-- The statement. -/
theorem proved : Rows.TickBacksSaid := over
end Go.Proofs.Ytdlbgelidcfmiaa.tickBacks
