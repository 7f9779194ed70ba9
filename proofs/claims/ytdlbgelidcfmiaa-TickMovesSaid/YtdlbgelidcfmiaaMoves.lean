/- Proved: TickMoves returns true at every clock, number and local time, and its arguments read afterwards as before. Conditions: none. -/
import Derived.Test.YtdlbgelidcfmiaaP9
import Derived.ProofKit
import Derived.OpenShut
import Derived.ShutString
import Derived.ChangeOld
import Derived.Below
namespace Go.Proofs.Ytdlbgelidcfmiaa.tickMoves
open Go.ChangeShapes Go.WideShapes Go.ChangeAt Go.RowKit Go.Firn

theorem own : ownKnob Try.prog.godebug = none := by kernel_rfl
theorem laidOut : laidOutB Try.prog = true := by kernel_rfl

set_option maxRecDepth 100000 in
set_option maxHeartbeats 2000000 in
theorem walk_no (a : Option Addr) (n c : Nat) (L T : Nat → Int) (y lo : Int) (w : World) (hn : n ≤ 9223372036854775807) (hr : RdM w a n L T) (hs : ¬ 100 < n) (hv : vK n L T = true) (hm : mvB n T y = false) :
    Calls Try.prog 7 #[.slice a n c, .int .i64 y, .int .u32 lo] w (RetB true w) := by
  have Hv := Lib.hid hv
  have M1 := Lib.hid (fun (w1 : World) (h : RdM w1 a n L T) => show Calls Try.prog 39 #[.slice a n c, .int .i64 y] w1 (RetMs [] 2 w1) by
    have := Moved_any a n c L T y w1 hn h; rw [hv, hm] at this; exact this)
  clear hv hm
  go_enter Try.func7, Try.ntmps7
  go_wp2_with fail
  refine (Long_any a n c _ hn).mono ?_
  rintro e w1 ⟨rfl, rfl⟩
  go_wp2_with fail
  refine (refValidClock_any a n c L T _ hn hr).mono ?_
  rintro e w1 ⟨rfl, g⟩
  rw [Hv.out]
  go_wp2_with fail
  refine (M1.out _ (hr.gr g)).mono ?_
  rintro e w2 ⟨a1, c1, rfl, i1, i2, ri, g2⟩
  replace g := g.trans g2
  clear g2 ri
  simp only [List.length_nil] at *
  go_wp2_with fail
  refine (Awake_any _).mono ?_
  rintro e w9 ⟨rfl, g2⟩
  go_wp2_with fail
  go_ret
  exact ⟨rfl, g.trans g2⟩

set_option maxRecDepth 100000 in
set_option maxHeartbeats 2000000 in
theorem walk_ok (a : Option Addr) (n c : Nat) (L T : Nat → Int) (y lo : Int) (w : World) (hn : n ≤ 9223372036854775807) (hr : RdM w a n L T) (hs : ¬ 100 < n) (hv : vK n L T = true) (hm : mvB n T y = true) (hl : 0 ≤ lo ∧ lo ≤ 4294967295) :
    Calls Try.prog 7 #[.slice a n c, .int .i64 y, .int .u32 lo] w (RetB true w) := by
  obtain ⟨l1, l2⟩ := hl
  have x1 : 0 ≤ lo % 100001 ∧ lo % 100001 ≤ 100000 := by omega
  have hx := Lib.hid (show btw 0 (lo % 100001) 100000 = true from btw_true.2 x1)
  have Hv := Lib.hid hv
  have Hw := Lib.hid (vK_moved hv hm)
  have Hm := Lib.hid hm
  have Hk := Lib.hid (mvB_back (x := y) hv)
  obtain ⟨y1, y2⟩ := mvB_bd hv hm
  have q := Lib.hid (show eqM n n L T L T = true from eqM_true.2 ⟨rfl, fun _ _ => ⟨rfl, rfl⟩⟩)
  have A1 := Lib.hid (fun (w1 : World) (h : RdM w1 a n L T) => show Calls Try.prog 31 #[.slice a n c, .int .i64 (lo % 100001)] w1 (RetRE (AN n L T (lo % 100001)) (AD n L T (lo % 100001)) 0 w1) by
    have := At_any a n c L T (lo % 100001) w1 hn h; rw [Hv.out, hx.out] at this; exact this)
  have A2 := Lib.hid (fun (w1 : World) (a' : Option Addr) (c' : Nat) (h : RdM w1 a' n L (fun i => T i + y)) => show Calls Try.prog 31 #[.slice a' n c', .int .i64 (lo % 100001)] w1 (RetRE (AN n L T (lo % 100001) + y * AD n L T (lo % 100001)) (AD n L T (lo % 100001)) 0 w1) by
    have := At_any a' n c' L _ (lo % 100001) w1 hn h; rw [Hw.out, hx.out, (At_moved y _ hv).1, (At_moved y _ hv).2] at this; exact this)
  have S1 := Lib.hid (fun (w1 : World) (h : RdM w1 a n L T) => show Calls Try.prog 37 #[.slice a n c, .int .i64 (lo % 100001)] w1 (RetRE (SN n L T (lo % 100001)) (SD n L T (lo % 100001)) 0 w1) by
    have := Speed_any a n c L T (lo % 100001) w1 hn h; rw [Hv.out, hx.out] at this; exact this)
  have S2 := Lib.hid (fun (w1 : World) (a' : Option Addr) (c' : Nat) (h : RdM w1 a' n L (fun i => T i + y)) => show Calls Try.prog 37 #[.slice a' n c', .int .i64 (lo % 100001)] w1 (RetRE (SN n L T (lo % 100001)) (SD n L T (lo % 100001)) 0 w1) by
    have := Speed_any a' n c' L _ (lo % 100001) w1 hn h; rw [Hw.out, hx.out, (Speed_moved n L T y _).1, (Speed_moved n L T y _).2] at this; exact this)
  have M1 := Lib.hid (fun (w1 : World) (h : RdM w1 a n L T) => show Calls Try.prog 39 #[.slice a n c, .int .i64 y] w1 (RetMf n L (fun i => T i + y) 0 w1) by
    have := Moved_any a n c L T y w1 hn h; rw [Hv.out, Hm.out] at this; exact this.mono fun _ _ h => h.mf)
  have M2 := Lib.hid (fun (w1 : World) (a' : Option Addr) (c' : Nat) (h : RdM w1 a' n L (fun i => T i + y)) => show Calls Try.prog 39 #[.slice a' n c', .int .i64 (-y)] w1 (RetMf n L T 0 w1) by
    have := Moved_any a' n c' L _ (-y) w1 hn h; rw [Hw.out, Hk.out] at this
    have e : (fun i => T i + y + -y) = T := funext fun i => by omega
    exact this.mono fun _ _ h => by have := h.mf; rwa [e] at this)
  have b1 := AN_bd (x := lo % 100001) hv (by omega)
  have b2 := AD_bd (lo % 100001) hv
  have b3 := mul_bd (a := y) (b := AD n L T (lo % 100001)) (A := 100000) (B := 100000) (by omega) (by omega) (by omega) (by omega)
  generalize AN n L T (lo % 100001) = N at *
  generalize AD n L T (lo % 100001) = D at *
  generalize SN n L T (lo % 100001) = U at *
  generalize SD n L T (lo % 100001) = V at *
  generalize (fun i => T i + y) = T' at *
  have q1 : IntKind.i64.wrap (y * D) = y * D := IntWalk.i64_in _ (by omega)
  have q2 : IntKind.i64.wrap (N + y * D) = N + y * D := IntWalk.i64_in _ (by omega)
  have q3 : IntKind.i64.wrap (-y) = -y := IntWalk.i64_in _ (by omega)
  generalize hlo : lo % 100001 = x at *
  have Hlo := Lib.hid hlo
  clear hv hx hlo hm Hw Hm Hk b1 b2 b3
  obtain ⟨x2, x3⟩ := x1
  go_enter Try.func7, Try.ntmps7
  go_wp2_with fail
  refine (Long_any a n c _ hn).mono ?_
  rintro e w1 ⟨rfl, rfl⟩
  go_wp2_with fail
  refine (refValidClock_any a n c L T _ hn hr).mono ?_
  rintro e w1 ⟨rfl, g⟩
  rw [Hv.out]
  go_wp2_with fail
  refine (M1.out _ (hr.gr g)).mono ?_
  rintro e w2 ⟨a1, c1, rfl, i1, i2, ri, g2⟩
  replace g := g.trans g2
  clear g2
  go_wp2_with fail
  refine (M2.out _ _ _ ri).mono ?_
  rintro e w3 ⟨a2, c2, rfl, j1, j2, rj, g2⟩
  replace g := g.trans g2
  replace ri := ri.gr g2
  clear g2
  go_wp2_with fail
  rw [Hlo.out]
  refine (A1.out _ (hr.gr g)).mono ?_
  rintro e w4 ⟨rfl, g2⟩
  replace g := g.trans g2
  replace ri := ri.gr g2
  replace rj := rj.gr g2
  clear g2
  have X1 : Box2 (w4.alloc (.cells #[.int .i64 N, .int .i64 D] 37)) w4.heap.size N D := Box2.new rfl
  have ga := (Gr.refl w4).alloc (.cells #[.int .i64 N, .int .i64 D] 37)
  replace g := g.trans ga
  replace ri := ri.gr ga
  replace rj := rj.gr ga
  clear ga
  go_wp2_with fail
  refine (A2.out _ _ _ ri).mono ?_
  rintro e w5 ⟨rfl, g2⟩
  replace g := g.trans g2
  replace ri := ri.gr g2
  replace rj := rj.gr g2
  replace X1 := X1.gr g2
  clear g2
  have X2 : Box2 (w5.alloc (.cells #[.int .i64 (N + y * D), .int .i64 D] 37)) w5.heap.size (N + y * D) D := Box2.new rfl
  have ga := (Gr.refl w5).alloc (.cells #[.int .i64 (N + y * D), .int .i64 D] 37)
  replace g := g.trans ga
  replace ri := ri.gr ga
  replace rj := rj.gr ga
  replace X1 := X1.gr ga
  clear ga
  go_wp2_with fail
  refine (S1.out _ (hr.gr g)).mono ?_
  rintro e w6 ⟨rfl, g2⟩
  replace g := g.trans g2
  replace ri := ri.gr g2
  replace rj := rj.gr g2
  replace X1 := X1.gr g2
  replace X2 := X2.gr g2
  clear g2
  have X3 : Box2 (w6.alloc (.cells #[.int .i64 U, .int .i64 V] 37)) w6.heap.size U V := Box2.new rfl
  have ga := (Gr.refl w6).alloc (.cells #[.int .i64 U, .int .i64 V] 37)
  replace g := g.trans ga
  replace ri := ri.gr ga
  replace rj := rj.gr ga
  replace X1 := X1.gr ga
  replace X2 := X2.gr ga
  clear ga
  go_wp2_with fail
  refine (S2.out _ _ _ ri).mono ?_
  rintro e w7 ⟨rfl, g2⟩
  replace g := g.trans g2
  replace rj := rj.gr g2
  replace X1 := X1.gr g2
  replace X2 := X2.gr g2
  replace X3 := X3.gr g2
  clear g2 ri
  have X4 : Box2 (w7.alloc (.cells #[.int .i64 U, .int .i64 V] 37)) w7.heap.size U V := Box2.new rfl
  have ga := (Gr.refl w7).alloc (.cells #[.int .i64 U, .int .i64 V] 37)
  replace g := g.trans ga
  replace rj := rj.gr ga
  replace X1 := X1.gr ga
  replace X2 := X2.gr ga
  replace X3 := X3.gr ga
  clear ga
  go_wp2_with fail
  have E1 := Equal_q a2 a n c2 n c L T L T _ hn hn rj (hr.gr g)
  rw [q.out] at E1
  refine E1.mono ?_
  rintro e w8 ⟨rfl, m, rfl⟩
  have gd := (Gr.refl (w7.alloc (.cells #[.int .i64 U, .int .i64 V] 37))).drewN m
  replace g := g.trans gd
  replace X1 := X1.gr gd
  replace X2 := X2.gr gd
  replace X3 := X3.gr gd
  replace X4 := X4.gr gd
  clear gd E1 rj
  generalize (w7.alloc (.cells #[.int .i64 U, .int .i64 V] 37)).drewN m = w8 at *
  obtain ⟨s0, s1, f0, f1⟩ := id X1
  obtain ⟨s2, s3, f2, f3⟩ := id X2
  obtain ⟨s4, s5, f4, f5⟩ := id X3
  obtain ⟨s6, s7, f6, f7⟩ := id X4
  go_wp2_with fail
  refine (Awake_any _).mono ?_
  rintro e w9 ⟨rfl, g2⟩
  go_wp2_with fail
  go_ret
  exact ⟨rfl, g.trans g2⟩

theorem walk (a : Option Addr) (n c : Nat) (L T : Nat → Int) (y lo : Int) (w : World) (hn : n ≤ 9223372036854775807) (_wf : ∀ i, i < n → (Lit.int .i64 (L i)).wf = true ∧ (Lit.int .i64 (T i)).wf = true) (hr : RdM w a n L T) (_w0 : (Lit.int .i64 y).wf = true) (w1 : (Lit.int .u32 lo).wf = true) :
    Calls Try.prog 7 #[.slice a n c, .int .i64 y, .int .u32 lo] w (RetB true w) := by
  have hl : 0 ≤ lo ∧ lo ≤ 4294967295 := by
    simp [Lit.wf, IntKind.min, IntKind.max, IntKind.signed, IntKind.bits] at w1
    omega
  by_cases hs : 100 < n
  · go_enter Try.func7, Try.ntmps7
    go_wp2_with (first
      | (go_at_call 30; refine (Long_any a n c _ hn).mono ?_; rintro e w1 ⟨rfl, rfl⟩)
      | (go_at_call 17; refine (Awake_any _).mono ?_; rintro e w6 ⟨rfl, hg11⟩))
    go_ret
    exact ⟨rfl, hg11⟩
  · cases hv : vK n L T with
    | true =>
      cases hm : mvB n T y with
      | true => exact walk_ok a n c L T y lo w hn hr hs hv hm hl
      | false => exact walk_no a n c L T y lo w hn hr hs hv hm
    | false =>
      have hv' := Lib.hid hv
      clear hv
      go_enter Try.func7, Try.ntmps7
      go_wp2_with fail
      refine (Long_any a n c _ hn).mono ?_
      rintro e w1 ⟨rfl, rfl⟩
      go_wp2_with fail
      refine (refValidClock_any a n c L T _ hn hr).mono ?_
      rintro e w1 ⟨rfl, g⟩
      rw [hv'.out]
      go_wp2_with fail
      refine (Awake_any _).mono ?_
      rintro e w6 ⟨rfl, g2⟩
      go_wp2_with fail
      go_ret
      exact ⟨rfl, g.trans g2⟩

set_option maxRecDepth 100000 in
theorem lifted (os : Os) (started : os.Started) (H : Type) (enc : TypeId × Value → H) :
    ReturnsInHanded {} Try.checked os 7 .any (Rows.tickMovesSpec.pre6 enc Try.prog Try.f7 Rows.tickMovesRow.domain false) (Rows.tickMovesSpec.post enc Try.prog Try.f7 false true false false) := by
  refine returnsInHanded_of_change (C := Try.checked) own started (by kernel_rfl) Try.func7
    (ChangeSpec.witness6 (enc := enc) (C := Try.checked) false ⟨#[], #[.slice none 0 0, .int .i64 0, .int .u32 0], []⟩ 8 (by kernel_rfl) (by kernel_rfl) (by kernel_rfl) (by kernel_rfl)) ?_
  intro W base args ds gs before hval0 hW hcnd _
  have hval : ∀ (j : Nat) t v, Try.f7.params[j]? = some t → args[j]? = some v → Value.okWide Try.prog W .any base t v := hval0
  have hW' := hW
  obtain ⟨p, q, hA0, hV, rfl, hfz, hnd⟩ := hW
  have hA : DataW.TrodAll enc Try.prog W 0 (fun _ => true) true Try.f7.params.toList args.toList ds p := hA0
  rw [Try.params7] at hA hval
  obtain ⟨v0, vs0, d0, ds0, p0, q0, hargs, rfl, rfl, h0, r0⟩ := trodAll_cons hA
  obtain ⟨v1, vs1, d1, ds1, p1, q1, rfl, rfl, rfl, h1, r1⟩ := trodAll_cons r0
  obtain ⟨v2, vs2, d2, ds2, p2, q2, rfl, rfl, rfl, h2, r2⟩ := trodAll_cons r1
  obtain ⟨rfl, rfl, rfl⟩ := trodAll_nil r2
  obtain rfl : args = #[v0, v1, v2] := by cases args; simp_all
  obtain ⟨rfl, rfl⟩ := trodVars_none hV
  obtain ⟨a0, len0, cap0, rfl⟩ := okWide_slice Try.underlying35 (hval 0 35 v0 rfl rfl)
  have k0 := h0
  have lt0 : ∀ x ∈ p0, x.block < W.heap.size := by obtain ⟨m, hm⟩ := k0; exact DataW.trod_lt m _ _ _ hm
  obtain ⟨x0, y0, wn0, wf0, wr0⟩ : ∃ f g : Nat → Int, len0 ≤ 9223372036854775807 ∧ (∀ i, i < len0 → (Lit.int .i64 (f i)).wf = true ∧ (Lit.int .i64 (g i)).wf = true) ∧ RdM W a0 len0 f g := by
    obtain ⟨fuel, hf⟩ := h0
    exact RdM.of_trod Try.underlying35 Try.underlying64 (by kernel_rfl) ⟨rfl, rfl⟩ ⟨rfl, rfl⟩ (by kernel_rfl) Try.underlying3 hf
  obtain ⟨a1, rfl, rfl, rfl, w1⟩ := open_int Try.underlying3 (hval 1 3 v1 rfl rfl) h1
  obtain ⟨a2, rfl, rfl, rfl, w2⟩ := open_int Try.underlying43 (hval 2 43 v2 rfl rfl) h2
  clear hA0 hval0
  refine (walk a0 len0 cap0 x0 y0 a1 a2 W wn0 wf0 wr0 w1 w2).mono fun e W' ⟨he, bel⟩ => ?_
  subst he
  exact ⟨_, rfl, _, _, _, [], _, [], hW', trodAll_mk1 (shut_bool Try.underlying4 _), (trodAll_cons_mk (Below.trod laidOut (by kernel_rfl) (of_decide_eq_true (by kernel_rfl)) k0 bel lt0) (trodAll_cons_mk (shut_int Try.underlying3 w1) (trodAll_cons_mk (shut_int Try.underlying43 w2) trodAll_mk0))), rfl, bel.frame _, fun h => by cases h⟩

theorem over : Rows.tickMovesRow.holds Try.pinned (OpenSpec.ofChange Rows.tickMovesSpec) :=
  OpenClaim.holds_of_wide 7 Try.f7 rfl rfl rfl rfl rfl rfl rfl ⟨rfl, rfl, rfl, rfl, rfl⟩ rfl rfl rfl rfl rfl (by kernel_rfl) Try.func7 (by kernel_rfl)
    (of_decide_eq_true (by kernel_rfl)) (by unfold Func.isWrapper; first | (rw [if_pos (by decide +kernel)]; kernel_rfl) | (rw [if_neg (by decide +kernel)]; exact ⟨rfl, rfl⟩))
    (fun os started H enc _ => lifted os started H enc)

/-- The statement. -/
theorem proved : Rows.TickMovesSaid := over
end Go.Proofs.Ytdlbgelidcfmiaa.tickMoves
