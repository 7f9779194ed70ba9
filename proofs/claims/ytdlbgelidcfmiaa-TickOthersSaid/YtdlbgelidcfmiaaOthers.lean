/- Proved: TickOthers returns true at every clock and number, and its arguments read afterwards as before. Conditions: none. -/
import Derived.Test.YtdlbgelidcfmiaaW26
import Derived.ProofKit
import Derived.OpenShut
import Derived.ShutString
import Derived.ChangeOld
import Derived.Below
namespace Go.Proofs.Ytdlbgelidcfmiaa.tickOthers
open Go.ChangeShapes Go.WideShapes Go.ChangeAt Go.RowKit Go.Firn

theorem own : ownKnob Try.prog.godebug = none := by kernel_rfl
theorem laidOut : laidOutB Try.prog = true := by kernel_rfl

theorem Equal_same (ms : List (Int × Int)) (a a' : Option Addr) (c c' : Nat) (w : World) (h1 : ms.length ≤ c) (h2 : c ≤ maxLen) (hr : RdM w a ms.length (px ms) (py ms)) (hr' : RdM w a' ms.length (px ms) (py ms)) :
    Calls Try.prog 40 #[.slice a ms.length c, .slice a' ms.length c'] w (RetDB true w) := by
  have hn : ms.length ≤ 9223372036854775807 := by unfold maxLen at h2; omega
  have h := Equal_q a a' ms.length c ms.length c' (px ms) (py ms) (px ms) (py ms) w hn hn hr hr'
  rwa [show eqM ms.length ms.length (px ms) (py ms) (px ms) (py ms) = true from eqM_true.2 ⟨rfl, fun _ _ => ⟨rfl, rfl⟩⟩] at h

set_option maxRecDepth 100000 in
set_option maxHeartbeats 2000000 in
theorem walk_ok (a : Option Addr) (n c : Nat) (L T : Nat → Int) (x : Int) (w : World) (hn : n ≤ 9223372036854775807) (hr : RdM w a n L T) (hs : ¬ 100 < n) :
    Calls Try.prog 10 #[.slice a n c, .int .i64 x] w (RetB true w) := by
  have A1 := Lib.hid (fun w1 h => Speeds_any a n c L T w1 hn h)
  have A2 := Lib.hid (fun w1 h => refSpeeds_any a n c L T w1 hn h)
  have A3 := Lib.hid (fun w1 h => Straight_any a n c L T w1 hn h)
  have A4 := Lib.hid (fun w1 h => refStraight_any a n c L T w1 hn h)
  have A5 := Lib.hid (fun w1 h => Inverse_any a n c L T w1 hn h)
  have A6 := Lib.hid (fun w1 h => refInverse_any a n c L T w1 hn h)
  have A7 := Lib.hid (fun w1 h => Moved_any a n c L T x w1 hn h)
  have A8 := Lib.hid (fun w1 h => refMoved_any a n c L T x w1 hn h)
  generalize okV (vK n L T) true (sF L T (mnI (sF L T) (sG L T) (n - 2))) = p at *
  generalize okV (vK n L T) true (sG L T (mnI (sF L T) (sG L T) (n - 2))) = q at *
  generalize okV (vK n L T) true (sF L T (mxI (sF L T) (sG L T) (n - 2))) = r at *
  generalize okV (vK n L T) true (sG L T (mxI (sF L T) (sG L T) (n - 2))) = s at *
  generalize okE (vK n L T) true = e1 at *
  generalize okE (vK n L T) (mvB n T x) = e2 at *
  generalize okL (vK n L T) true (stL n L T n) = l1 at *
  generalize okL (vK n L T) true (pairs n T L) = l2 at *
  generalize okL (vK n L T) (mvB n T x) (pairs n L (fun i => T i + x)) = l3 at *
  have E := Lib.hid (fun ms a a' c c' w1 h1 h2 hr hr' => Equal_same ms a a' c c' w1 h1 h2 hr hr')
  go_enter Try.func10, Try.ntmps10
  go_wp2_with fail
  refine (Long_any a n c _ hn).mono ?_
  rintro e w1 ⟨rfl, rfl⟩
  go_wp2_with fail
  refine (A1.out _ hr).mono ?_
  rintro e w2 ⟨rfl, g⟩
  have X1 : Box2 ((w2.alloc (.cells #[.int .i64 p, .int .i64 q] 37)).alloc (.cells #[.int .i64 r, .int .i64 s] 37)) w2.heap.size p q := (Box2.new rfl).gr ((Gr.refl _).alloc _)
  have X2 : Box2 ((w2.alloc (.cells #[.int .i64 p, .int .i64 q] 37)).alloc (.cells #[.int .i64 r, .int .i64 s] 37)) (w2.heap.size + 1) r s := Box2.new (by simp)
  replace g := (g.alloc (.cells #[.int .i64 p, .int .i64 q] 37)).alloc (.cells #[.int .i64 r, .int .i64 s] 37)
  go_wp2_with fail
  refine (A2.out _ (hr.gr g)).mono ?_
  rintro e w3 ⟨rfl, g2⟩
  have X3 : Box2 ((w3.alloc (.cells #[.int .i64 p, .int .i64 q] 37)).alloc (.cells #[.int .i64 r, .int .i64 s] 37)) w3.heap.size p q := (Box2.new rfl).gr ((Gr.refl _).alloc _)
  have X4 : Box2 ((w3.alloc (.cells #[.int .i64 p, .int .i64 q] 37)).alloc (.cells #[.int .i64 r, .int .i64 s] 37)) (w3.heap.size + 1) r s := Box2.new (by simp)
  have ga := (g2.alloc (.cells #[.int .i64 p, .int .i64 q] 37)).alloc (.cells #[.int .i64 r, .int .i64 s] 37)
  replace g := g.trans ga
  replace X1 := X1.gr ga
  replace X2 := X2.gr ga
  clear ga g2
  obtain ⟨s0, s1, -, -⟩ := X1
  obtain ⟨s2, s3, -, -⟩ := X2
  obtain ⟨s4, s5, -, -⟩ := X3
  obtain ⟨s6, s7, -, -⟩ := X4
  go_wp2_with fail
  clear s0 s1 s2 s3 s4 s5 s6 s7
  refine (A3.out _ (hr.gr g)).mono ?_
  rintro e u0 ⟨b0, c0, rfl, i0, h0, ri, gi⟩
  replace g := g.trans gi
  clear gi
  go_wp2_with fail
  refine (A4.out _ (hr.gr g)).mono ?_
  rintro e v0 ⟨d0, f0, rfl, j0, m0, rj, gj⟩
  replace g := g.trans gj
  replace ri := ri.gr gj
  clear gj
  go_wp2_with fail
  refine (E.out _ _ _ _ _ _ i0 h0 ri rj).mono ?_
  rintro e z0 ⟨rfl, m, rfl⟩
  replace g := g.trans ((Gr.refl v0).drewN m)
  clear ri rj
  generalize v0.drewN m = z0 at *
  go_wp2_with fail
  refine (A5.out _ (hr.gr g)).mono ?_
  rintro e u1 ⟨b1, c1, rfl, i1, h1, ri, gi⟩
  replace g := g.trans gi
  clear gi
  go_wp2_with fail
  refine (A6.out _ (hr.gr g)).mono ?_
  rintro e v1 ⟨d1, f1, rfl, j1, m1, rj, gj⟩
  replace g := g.trans gj
  replace ri := ri.gr gj
  clear gj
  go_wp2_with fail
  refine (E.out _ _ _ _ _ _ i1 h1 ri rj).mono ?_
  rintro e z1 ⟨rfl, m, rfl⟩
  replace g := g.trans ((Gr.refl v1).drewN m)
  clear ri rj
  generalize v1.drewN m = z1 at *
  go_wp2_with fail
  refine (A7.out _ (hr.gr g)).mono ?_
  rintro e u2 ⟨b2, c2, rfl, i2, h2, ri, gi⟩
  replace g := g.trans gi
  clear gi
  go_wp2_with fail
  refine (A8.out _ (hr.gr g)).mono ?_
  rintro e v2 ⟨d2, f2, rfl, j2, m2, rj, gj⟩
  replace g := g.trans gj
  replace ri := ri.gr gj
  clear gj
  go_wp2_with fail
  refine (E.out _ _ _ _ _ _ i2 h2 ri rj).mono ?_
  rintro e z2 ⟨rfl, m, rfl⟩
  replace g := g.trans ((Gr.refl v2).drewN m)
  clear ri rj
  generalize v2.drewN m = z2 at *
  go_wp2_with fail
  refine (Awake_any _).mono ?_
  rintro e w9 ⟨rfl, g2⟩
  go_wp2_with fail
  go_ret
  exact ⟨rfl, g.trans g2⟩

theorem walk (a : Option Addr) (n c : Nat) (L T : Nat → Int) (x : Int) (w : World) (hn : n ≤ 9223372036854775807) (_wf : ∀ i, i < n → (Lit.int .i64 (L i)).wf = true ∧ (Lit.int .i64 (T i)).wf = true) (hr : RdM w a n L T) (_w1 : (Lit.int .i64 x).wf = true) :
    Calls Try.prog 10 #[.slice a n c, .int .i64 x] w (RetB true w) := by
  by_cases hs : 100 < n
  · go_enter Try.func10, Try.ntmps10
    go_wp2_with (first
      | (go_at_call 30; refine (Long_any a n c _ hn).mono ?_; rintro e w1 ⟨rfl, rfl⟩)
      | (go_at_call 17; refine (Awake_any _).mono ?_; rintro e w6 ⟨rfl, hg11⟩))
    go_ret
    exact ⟨rfl, hg11⟩
  · exact walk_ok a n c L T x w hn hr hs

set_option maxRecDepth 100000 in
theorem lifted (os : Os) (started : os.Started) (H : Type) (enc : TypeId × Value → H) :
    ReturnsInHanded {} Try.checked os 10 .any (Rows.tickOthersSpec.pre6 enc Try.prog Try.f10 Rows.tickOthersRow.domain false) (Rows.tickOthersSpec.post enc Try.prog Try.f10 false true false false) := by
  refine returnsInHanded_of_change (C := Try.checked) own started (by kernel_rfl) Try.func10
    (ChangeSpec.witness6 (enc := enc) (C := Try.checked) false ⟨#[], #[.slice none 0 0, .int .i64 0], []⟩ 8 (by kernel_rfl) (by kernel_rfl) (by kernel_rfl) (by kernel_rfl)) ?_
  intro W base args ds gs before hval0 hW hcnd _
  have hval : ∀ (j : Nat) t v, Try.f10.params[j]? = some t → args[j]? = some v → Value.okWide Try.prog W .any base t v := hval0
  have hW' := hW
  obtain ⟨p, q, hA0, hV, rfl, hfz, hnd⟩ := hW
  have hA : DataW.TrodAll enc Try.prog W 0 (fun _ => true) true Try.f10.params.toList args.toList ds p := hA0
  rw [Try.params10] at hA hval
  obtain ⟨v0, vs0, d0, ds0, p0, q0, hargs, rfl, rfl, h0, r0⟩ := trodAll_cons hA
  obtain ⟨v1, vs1, d1, ds1, p1, q1, rfl, rfl, rfl, h1, r1⟩ := trodAll_cons r0
  obtain ⟨rfl, rfl, rfl⟩ := trodAll_nil r1
  obtain rfl : args = #[v0, v1] := by cases args; simp_all
  obtain ⟨rfl, rfl⟩ := trodVars_none hV
  obtain ⟨a0, len0, cap0, rfl⟩ := okWide_slice Try.underlying35 (hval 0 35 v0 rfl rfl)
  have k0 := h0
  have lt0 : ∀ x ∈ p0, x.block < W.heap.size := by obtain ⟨m, hm⟩ := k0; exact DataW.trod_lt m _ _ _ hm
  obtain ⟨x0, y0, wn0, wf0, wr0⟩ : ∃ f g : Nat → Int, len0 ≤ 9223372036854775807 ∧ (∀ i, i < len0 → (Lit.int .i64 (f i)).wf = true ∧ (Lit.int .i64 (g i)).wf = true) ∧ RdM W a0 len0 f g := by
    obtain ⟨fuel, hf⟩ := h0
    exact RdM.of_trod Try.underlying35 Try.underlying64 (by kernel_rfl) ⟨rfl, rfl⟩ ⟨rfl, rfl⟩ (by kernel_rfl) Try.underlying3 hf
  obtain ⟨a1, rfl, rfl, rfl, w1⟩ := open_int Try.underlying3 (hval 1 3 v1 rfl rfl) h1
  clear hA0 hval0
  refine (walk a0 len0 cap0 x0 y0 a1 W wn0 wf0 wr0 w1).mono fun e W' ⟨he, bel⟩ => ?_
  subst he
  exact ⟨_, rfl, _, _, _, [], _, [], hW', trodAll_mk1 (shut_bool Try.underlying4 _), (trodAll_cons_mk (Below.trod laidOut (by kernel_rfl) (of_decide_eq_true (by kernel_rfl)) k0 bel lt0) (trodAll_cons_mk (shut_int Try.underlying3 w1) trodAll_mk0)), rfl, bel.frame _, fun h => by cases h⟩

theorem over : Rows.tickOthersRow.holds Try.pinned (OpenSpec.ofChange Rows.tickOthersSpec) :=
  OpenClaim.holds_of_wide 10 Try.f10 rfl rfl rfl rfl rfl rfl rfl ⟨rfl, rfl, rfl, rfl, rfl⟩ rfl rfl rfl rfl rfl (by kernel_rfl) Try.func10 (by kernel_rfl)
    (of_decide_eq_true (by kernel_rfl)) (by unfold Func.isWrapper; first | (rw [if_pos (by decide +kernel)]; kernel_rfl) | (rw [if_neg (by decide +kernel)]; exact ⟨rfl, rfl⟩))
    (fun os started H enc _ => lifted os started H enc)

/-- The statement. -/
theorem proved : Rows.TickOthersSaid := over
end Go.Proofs.Ytdlbgelidcfmiaa.tickOthers
