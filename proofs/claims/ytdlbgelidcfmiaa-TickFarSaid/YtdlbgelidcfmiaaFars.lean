/- Proved: TickFar returns true at every two clocks and all numbers, and its arguments read afterwards as before. Conditions: none. -/
import Derived.Test.YtdlbgelidcfmiaaW35
import Derived.Test.YtdlbgelidcfmiaaRhe
import Derived.ProofKit
import Derived.OpenShut
import Derived.ShutString
import Derived.ChangeOld
import Derived.Below
namespace Go.Proofs.Ytdlbgelidcfmiaa.tickFar
open Go.ChangeShapes Go.WideShapes Go.ChangeAt Go.RowKit Go.Firn

theorem own : ownKnob Try.prog.godebug = none := by kernel_rfl
theorem laidOut : laidOutB Try.prog = true := by kernel_rfl

set_option maxRecDepth 100000 in
set_option maxHeartbeats 4000000 in
theorem walk_ok (a a' : Option Addr) (n c n' c' : Nat) (L T L' T' : Nat → Int) (lo sp at_ : Int) (w : World) (hn : n ≤ 9223372036854775807) (hn' : n' ≤ 9223372036854775807) (hr : RdM w a n L T) (hr' : RdM w a' n' L' T') (hs : ¬ 100 < n) (hs' : ¬ 100 < n')
    (hv : vK n L T = true) (hv' : vK n' L' T' = true) (l1 : 0 ≤ lo) (l2 : lo ≤ 4294967295) (l3 : 0 ≤ sp) (l4 : sp ≤ 65535) (l5 : 0 ≤ at_) (l6 : at_ ≤ 65535) :
    Calls Try.prog 12 #[.slice a n c, .slice a' n' c', .int .u32 lo, .int .u16 sp, .int .u16 at_] w (RetB true w) := by
  have V1 := Lib.hid (fun w1 h => show Calls Try.prog 34 #[.slice a n c] w1 (RetB true w1) by have := refValidClock_any a n c L T w1 hn h; rwa [hv] at this)
  have V2 := Lib.hid (fun w1 h => show Calls Try.prog 34 #[.slice a' n' c'] w1 (RetB true w1) by have := refValidClock_any a' n' c' L' T' w1 hn' h; rwa [hv'] at this)
  have HR := Lib.hid hr
  have HR' := Lib.hid hr'
  have Hv := Lib.hid hv
  have Hv' := Lib.hid hv'
  clear hr hr' hv hv'
  have x1 : 0 ≤ lo % 100001 ∧ lo % 100001 ≤ 100000 := by omega
  have e1 : IntKind.i64.wrap (lo % 100001 + sp) = lo % 100001 + sp := IntWalk.i64_in _ (by omega)
  have y1 : lo % 100001 ≤ min (lo % 100001 + sp) 100000 ∧ min (lo % 100001 + sp) 100000 ≤ 100000 := by omega
  have e2 : IntKind.i64.wrap (min (lo % 100001 + sp) 100000 - lo % 100001) = min (lo % 100001 + sp) 100000 - lo % 100001 := IntWalk.i64_in _ (by omega)
  have e3 : IntKind.i64.wrap (min (lo % 100001 + sp) 100000 - lo % 100001 + 1) = min (lo % 100001 + sp) 100000 - lo % 100001 + 1 := IntWalk.i64_in _ (by omega)
  have d0 : 0 < min (lo % 100001 + sp) 100000 - lo % 100001 + 1 := by omega
  have e4 : at_.tmod (min (lo % 100001 + sp) 100000 - lo % 100001 + 1) = at_ % (min (lo % 100001 + sp) 100000 - lo % 100001 + 1) := Int.tmod_eq_emod_of_nonneg l5
  have d1 := Int.emod_nonneg at_ (show min (lo % 100001 + sp) 100000 - lo % 100001 + 1 ≠ 0 by omega)
  have d2 := Int.emod_lt_of_pos at_ d0
  have e5 : IntKind.i64.wrap (lo % 100001 + at_ % (min (lo % 100001 + sp) 100000 - lo % 100001 + 1)) = lo % 100001 + at_ % (min (lo % 100001 + sp) 100000 - lo % 100001 + 1) := IntWalk.i64_in _ (by omega)
  have d3 : ¬ min (lo % 100001 + sp) 100000 - lo % 100001 + 1 = 0 := by omega
  have HZ := Lib.hid (show lo % 100001 ≤ lo % 100001 + at_ % (min (lo % 100001 + sp) 100000 - lo % 100001 + 1) ∧ lo % 100001 + at_ % (min (lo % 100001 + sp) 100000 - lo % 100001 + 1) ≤ min (lo % 100001 + sp) 100000 by omega)
  go_enter Try.func12, Try.ntmps12
  go_wp2_with (first
    | (go_at_call 30; refine (Long_any a n c _ hn).mono ?_; rintro e w1 ⟨rfl, rfl⟩)
    | (go_at_call 30; refine (Long_any a' n' c' _ hn').mono ?_; rintro e w1 ⟨rfl, rfl⟩))
  refine (V1.out _ HR.out).mono ?_
  rintro e w2 ⟨rfl, g⟩
  go_wp2_with fail
  refine (V2.out _ (HR'.out.gr g)).mono ?_
  rintro e w3 ⟨rfl, g2⟩
  replace g := g.trans g2
  clear g2
  go_wp2_with fail
  have hx0 := x1.1
  generalize hzz : lo % 100001 + at_ % (min (lo % 100001 + sp) 100000 - lo % 100001 + 1) = z at *
  clear e1 e2 e3 d0 e4 d1 d2 e5 d3
  generalize hyy : min (lo % 100001 + sp) 100000 = y at *
  generalize hxx : lo % 100001 = x at *
  clear hzz hyy hxx
  obtain ⟨m, p, q, b, hm, ep, eq, hb, hmax, A1, A2, A3⟩ := far_facts Hv.out Hv'.out a a' c c' (x := x) (y := y) hx0 y1.1 y1.2
  have hz := HZ.out
  have At1 := fun (t : Int) (ht : 0 ≤ t ∧ t ≤ 100000) (w1 : World) (h : RdM w1 a n L T) => show Calls Try.prog 31 #[.slice a n c, .int .i64 t] w1 (RetRE (AN n L T t) (AD n L T t) 0 w1) by
    have := At_any a n c L T t w1 hn h; rw [Hv.out, btw_true.2 ht] at this; exact this
  have At2 := fun (t : Int) (ht : 0 ≤ t ∧ t ≤ 100000) (w1 : World) (h : RdM w1 a' n' L' T') => show Calls Try.prog 31 #[.slice a' n' c', .int .i64 t] w1 (RetRE (AN n' L' T' t) (AD n' L' T' t) 0 w1) by
    have := At_any a' n' c' L' T' t w1 hn' h; rw [Hv'.out, btw_true.2 ht] at this; exact this
  have A4 := Lib.hid (At1 z (by omega))
  have A5 := Lib.hid (At2 z (by omega))
  have A6 := Lib.hid (At1 m (by omega))
  have A7 := Lib.hid (At2 m (by omega))
  clear At1 At2
  have LZ := Lib.hid (fun w1 => lawapart_any n n' L T L' T' z w1 Hv.out Hv'.out (by omega))
  have LM := Lib.hid (fun w1 => show Calls Try.prog 55 #[.agg #[.int .i64 (AN n L T m), .int .i64 (AD n L T m)], .agg #[.int .i64 (AN n' L' T' m), .int .i64 (AD n' L' T' m)]] w1 (RetR p q w1) by
    have := lawapart_any n n' L T L' T' m w1 Hv.out Hv'.out (by omega); rwa [ep, eq] at this)
  have bz := ap_bd (x := z) Hv.out Hv'.out (by omega)
  have bm := ap_bd (x := m) Hv.out Hv'.out (by omega)
  rw [ep, eq] at bm
  have MO := Lib.hid (fun w1 => show Calls Try.prog 54 #[.agg #[.int .i64 (apN n L T n' L' T' z), .int .i64 (apD n L T n' L' T' z)], .agg #[.int .i64 p, .int .i64 q]] w1 (RetB false w1) by
    have := More_any _ _ p q w1 bz.1 bz.2 bm.1 bm.2
    rwa [show decide (p * apD n L T n' L' T' z < apN n L T n' L' T' z * q) = false from decide_eq_false (hmax z hz.1 hz.2)] at this)
  have e6 : max q 1 = q := Int.max_eq_left (by omega)
  have D1 : decide (m < x) = false := by simp; omega
  have D2 : decide (y < m) = false := by simp; omega
  replace A1 := Lib.hid A1
  replace A2 := Lib.hid A2
  replace A3 := Lib.hid A3
  have hcase : b = false ∨ (b = true ∧ p = 0 ∧ m = x) := by
    cases b with
    | false => exact .inl rfl
    | true => exact .inr ⟨rfl, hb rfl⟩
  clear hb hmax ep eq bz bm hm hz hx0 x1 y1 HZ
  generalize apN n L T n' L' T' z = PZ at *
  generalize apD n L T n' L' T' z = QZ at *
  generalize AN n L T z = N1 at *
  generalize AD n L T z = N2 at *
  generalize AN n' L' T' z = N3 at *
  generalize AD n' L' T' z = N4 at *
  generalize AN n L T m = M1 at *
  generalize AD n L T m = M2 at *
  generalize AN n' L' T' m = M3 at *
  generalize AD n' L' T' m = M4 at *
  rcases hcase with rfl | ⟨rfl, hp0, hm0⟩
  · refine (A1.out _ (HR.out.gr g) (HR'.out.gr g)).mono ?_
    rintro e w4 ⟨rfl, g2⟩
    have H4 := Lib.hid (g.trans g2).size
    have X15 := Lib.hid (show Box2 (w4.alloc (.cells #[.int .i64 p, .int .i64 q] 37)) w4.heap.size p q from Box2.new rfl)
    replace g2 := g2.alloc (.cells #[.int .i64 p, .int .i64 q] 37)
    replace g := g.trans g2
    clear g2
    go_wp2_with fail
    refine (A2.out _ (HR.out.gr g) (HR'.out.gr g)).mono ?_
    rintro e w5 ⟨rfl, g2⟩
    have X18 := Lib.hid (show Box2 (w5.alloc (.cells #[.int .i64 p, .int .i64 q] 37)) w5.heap.size p q from Box2.new rfl)
    replace g2 := g2.alloc (.cells #[.int .i64 p, .int .i64 q] 37)
    replace X15 := Lib.hid (X15.out.gr g2)
    replace g := g.trans g2
    clear g2
    go_wp2_with fail
    refine (A3.out _ (HR.out.gr g) (HR'.out.gr g)).mono ?_
    rintro e w6 ⟨rfl, g2⟩
    replace X15 := Lib.hid (X15.out.gr g2)
    replace X18 := Lib.hid (X18.out.gr g2)
    replace g := g.trans g2
    clear g2
    have hz15 : w4.heap.size < w6.heap.size := World.block_lt_of_cell? w6 _ X15.out.1
    have hz4 : w.heap.size ≤ w4.heap.size := H4.out
    obtain ⟨s0, s1, f0, f1⟩ := id X15.out
    obtain ⟨s2, s3, -, -⟩ := id X18.out
    have X16 := Lib.hid (show Box2 (w6.setCell ⟨w4.heap.size, 1, none⟩ (.int .i64 q)) w4.heap.size p q from X15.out.put1)
    have G7 := g.setAt (b := w4.heap.size) (j := 1) hz4 (.int .i64 q)
    clear X18
    go_wp2_with fail
    clear s0 s1 f0 f1 s2 s3 g X15
    refine (A4.out _ (HR.out.gr G7)).mono ?_
    rintro e w7 ⟨rfl, g2⟩
    have g := G7
    clear G7
    have X22 := Lib.hid (show Box2 (w7.alloc (.cells #[.int .i64 N1, .int .i64 N2] 37)) w7.heap.size N1 N2 from Box2.new rfl)
    replace g2 := g2.alloc (.cells #[.int .i64 N1, .int .i64 N2] 37)
    replace X16 := Lib.hid (X16.out.gr g2)
    replace g := g.trans g2
    clear g2
    go_wp2_with fail
    refine (A5.out _ (HR'.out.gr g)).mono ?_
    rintro e w8 ⟨rfl, g2⟩
    have X23 := Lib.hid (show Box2 (w8.alloc (.cells #[.int .i64 N3, .int .i64 N4] 37)) w8.heap.size N3 N4 from Box2.new rfl)
    replace g2 := g2.alloc (.cells #[.int .i64 N3, .int .i64 N4] 37)
    replace X16 := Lib.hid (X16.out.gr g2)
    replace X22 := Lib.hid (X22.out.gr g2)
    replace g := g.trans g2
    clear g2
    go_wp2_with fail
    refine (A6.out _ (HR.out.gr g)).mono ?_
    rintro e w9 ⟨rfl, g2⟩
    have X24 := Lib.hid (show Box2 (w9.alloc (.cells #[.int .i64 M1, .int .i64 M2] 37)) w9.heap.size M1 M2 from Box2.new rfl)
    replace g2 := g2.alloc (.cells #[.int .i64 M1, .int .i64 M2] 37)
    replace X16 := Lib.hid (X16.out.gr g2)
    replace X22 := Lib.hid (X22.out.gr g2)
    replace X23 := Lib.hid (X23.out.gr g2)
    replace g := g.trans g2
    clear g2
    go_wp2_with fail
    refine (A7.out _ (HR'.out.gr g)).mono ?_
    rintro e w10 ⟨rfl, g2⟩
    have X25 := Lib.hid (show Box2 (w10.alloc (.cells #[.int .i64 M3, .int .i64 M4] 37)) w10.heap.size M3 M4 from Box2.new rfl)
    replace g2 := g2.alloc (.cells #[.int .i64 M3, .int .i64 M4] 37)
    replace X16 := Lib.hid (X16.out.gr g2)
    replace X22 := Lib.hid (X22.out.gr g2)
    replace X23 := Lib.hid (X23.out.gr g2)
    replace X24 := Lib.hid (X24.out.gr g2)
    replace g := g.trans g2
    clear g2
    obtain ⟨s0, s1, -, -⟩ := id X16.out
    obtain ⟨s2, s3, -, -⟩ := id X22.out
    obtain ⟨s4, s5, -, -⟩ := id X23.out
    obtain ⟨s6, s7, -, -⟩ := id X24.out
    obtain ⟨s8, s9, -, -⟩ := id X25.out
    go_upto_region 18 with fail
    generalize hW : w10.alloc (.cells #[.int .i64 M3, .int .i64 M4] 37) = W1 at *
    clear hW X16 X22 X23 X24 X25 H4 hz15 hz4 A1 A2 A3 A4 A5 A6 A7 V1 V2 Hv Hv'
    refine (wpIn_wide (n := 3)).1 ?_
    refine wpIn_region_held (fun w' => Gr W1 w') 17 (by kernel_rfl) rfl rfl ?_
    have hS : Gr W1 W1.drew := (Gr.refl W1).drew
    iterate 3 (first
      | (refine wpAnyHIn_take 0 (v := ?_) rfl (by kernel_rfl) (by kernel_rfl) (by kernel_rfl) (by decide +kernel) (fun _ _ _ h => h) (fun _ _ _ => trivial) (by rfl) (fun w' hSw => ?_) hS ?_; rotate_left 1; (focus (have u0 := hSw.cell s0; have u1 := hSw.cell s1; have u2 := hSw.cell s2; have u3 := hSw.cell s3; have u4 := hSw.cell s4; have u5 := hSw.cell s5; go_simp; try with_reducible rfl)); simp only [Act.put, List.setIfInBounds_toArray, List.set_cons_zero, List.set_cons_succ])
      | (refine wpAnyHIn_take 1 (v := ?_) rfl (by kernel_rfl) (by kernel_rfl) (by kernel_rfl) (by decide +kernel) (fun _ _ _ h => h) (fun _ _ _ => trivial) (by rfl) (fun w' hSw => ?_) hS ?_; rotate_left 1; (focus (have u0 := hSw.cell s0; have u1 := hSw.cell s1; have u2 := hSw.cell s2; have u3 := hSw.cell s3; have u4 := hSw.cell s4; have u5 := hSw.cell s5; go_simp; try with_reducible rfl)); simp only [Act.put, List.setIfInBounds_toArray, List.set_cons_zero, List.set_cons_succ])
      | (refine wpAnyHIn_take 3 (v := ?_) rfl (by kernel_rfl) (by kernel_rfl) (by kernel_rfl) (by decide +kernel) (fun _ _ _ h => h) (fun _ _ _ => trivial) (by rfl) (fun w' hSw => ?_) hS ?_; rotate_left 1; (focus (have u0 := hSw.cell s0; have u1 := hSw.cell s1; have u2 := hSw.cell s2; have u3 := hSw.cell s3; have u4 := hSw.cell s4; have u5 := hSw.cell s5; go_simp; try with_reducible rfl)); simp only [Act.put, List.setIfInBounds_toArray, List.set_cons_zero, List.set_cons_succ]))
    refine wpAnyHIn_ready [2] (by kernel_rfl) (by simp) ?_
    refine AllHIn.cons rfl (by rfl) (fun K hK => ?_) AllHIn.nil
    go_simp
    refine ⟨trivial, ?_⟩
    refine (callsIn_wide.2 (LZ.out _)).mono ?_
    rintro e wX ⟨rfl, gX⟩
    have hS : Gr W1 wX := hS.trans gX
    refine hK.out _ _ hS ?_
    clear hK K gX
    refine wpAnyHIn_ready [4] (by kernel_rfl) (by simp) ?_
    refine AllHIn.cons rfl (by rfl) (fun K hK => ?_) AllHIn.nil
    go_simp
    refine ⟨trivial, ?_⟩
    refine (callsIn_wide.2 (MO.out _)).mono ?_
    rintro e wX ⟨rfl, gX⟩
    have hS : Gr W1 wX := hS.trans gX
    refine hK.out _ _ hS ?_
    clear hK K gX
    iterate 2 (first
      | (refine wpAnyHIn_take 5 (v := ?_) rfl (by kernel_rfl) (by kernel_rfl) (by kernel_rfl) (by decide +kernel) (fun _ _ _ h => h) (fun _ _ _ => trivial) (by rfl) (fun w' hSw => ?_) hS ?_; rotate_left 1; (focus (skip; go_simp; try with_reducible rfl)); simp only [Act.put, List.setIfInBounds_toArray, List.set_cons_zero, List.set_cons_succ])
      | (refine wpAnyHIn_take 6 (v := ?_) rfl (by kernel_rfl) (by kernel_rfl) (by kernel_rfl) (by decide +kernel) (fun _ _ _ h => h) (fun _ _ _ => trivial) (by rfl) (fun w' hSw => ?_) hS ?_; rotate_left 1; (focus (skip; go_simp; try with_reducible rfl)); simp only [Act.put, List.setIfInBounds_toArray, List.set_cons_zero, List.set_cons_succ]))
    iterate 3 (first
      | (refine wpAnyHIn_take 7 (v := ?_) rfl (by kernel_rfl) (by kernel_rfl) (by kernel_rfl) (by decide +kernel) (fun _ _ _ h => h) (fun _ _ _ => trivial) (by rfl) (fun w' hSw => ?_) hS ?_; rotate_left 1; (focus (have u0 := hSw.cell s0; have u1 := hSw.cell s1; have u2 := hSw.cell s6; have u3 := hSw.cell s7; have u4 := hSw.cell s8; have u5 := hSw.cell s9; go_simp; try with_reducible rfl)); simp only [Act.put, List.setIfInBounds_toArray, List.set_cons_zero, List.set_cons_succ])
      | (refine wpAnyHIn_take 8 (v := ?_) rfl (by kernel_rfl) (by kernel_rfl) (by kernel_rfl) (by decide +kernel) (fun _ _ _ h => h) (fun _ _ _ => trivial) (by rfl) (fun w' hSw => ?_) hS ?_; rotate_left 1; (focus (have u0 := hSw.cell s0; have u1 := hSw.cell s1; have u2 := hSw.cell s6; have u3 := hSw.cell s7; have u4 := hSw.cell s8; have u5 := hSw.cell s9; go_simp; try with_reducible rfl)); simp only [Act.put, List.setIfInBounds_toArray, List.set_cons_zero, List.set_cons_succ])
      | (refine wpAnyHIn_take 10 (v := ?_) rfl (by kernel_rfl) (by kernel_rfl) (by kernel_rfl) (by decide +kernel) (fun _ _ _ h => h) (fun _ _ _ => trivial) (by rfl) (fun w' hSw => ?_) hS ?_; rotate_left 1; (focus (have u0 := hSw.cell s0; have u1 := hSw.cell s1; have u2 := hSw.cell s6; have u3 := hSw.cell s7; have u4 := hSw.cell s8; have u5 := hSw.cell s9; go_simp; try with_reducible rfl)); simp only [Act.put, List.setIfInBounds_toArray, List.set_cons_zero, List.set_cons_succ]))
    refine wpAnyHIn_ready [9] (by kernel_rfl) (by simp) ?_
    refine AllHIn.cons rfl (by rfl) (fun K hK => ?_) AllHIn.nil
    go_simp
    refine ⟨trivial, ?_⟩
    refine (callsIn_wide.2 (LM.out _)).mono ?_
    rintro e wX ⟨rfl, gX⟩
    have hS : Gr W1 wX := hS.trans gX
    refine hK.out _ _ hS ?_
    clear hK K gX
    iterate 3 (first
      | (refine wpAnyHIn_take 11 (v := ?_) rfl (by kernel_rfl) (by kernel_rfl) (by kernel_rfl) (by decide +kernel) (fun _ _ _ h => h) (fun _ _ _ => trivial) (by rfl) (fun w' hSw => ?_) hS ?_; rotate_left 1; (focus (skip; go_simp; try with_reducible rfl)); simp only [Act.put, List.setIfInBounds_toArray, List.set_cons_zero, List.set_cons_succ])
      | (refine wpAnyHIn_take 12 (v := ?_) rfl (by kernel_rfl) (by kernel_rfl) (by kernel_rfl) (by decide +kernel) (fun _ _ _ h => h) (fun _ _ _ => trivial) (by rfl) (fun w' hSw => ?_) hS ?_; rotate_left 1; (focus (skip; go_simp; try with_reducible rfl)); simp only [Act.put, List.setIfInBounds_toArray, List.set_cons_zero, List.set_cons_succ])
      | (refine wpAnyHIn_take 13 (v := ?_) rfl (by kernel_rfl) (by kernel_rfl) (by kernel_rfl) (by decide +kernel) (fun _ _ _ h => h) (fun _ _ _ => trivial) (by rfl) (fun w' hSw => ?_) hS ?_; rotate_left 1; (focus (skip; go_simp; try with_reducible rfl)); simp only [Act.put, List.setIfInBounds_toArray, List.set_cons_zero, List.set_cons_succ]))
    refine wpAnyHIn_ready [14] (by kernel_rfl) (by simp) ?_
    refine AllHIn.cons rfl (by rfl) (fun K hK => ?_) AllHIn.nil
    go_simp
    refine ⟨trivial, ?_⟩
    refine (callsIn_wide.2 (Awake_any _)).mono ?_
    rintro e wX ⟨rfl, gX⟩
    have hS : Gr W1 wX := hS.trans gX
    refine hK.out _ _ hS ?_
    clear hK K gX
    iterate 2 (first
      | (refine wpAnyHIn_take 15 (v := ?_) rfl (by kernel_rfl) (by kernel_rfl) (by kernel_rfl) (by decide +kernel) (fun _ _ _ h => h) (fun _ _ _ => trivial) (by rfl) (fun w' hSw => ?_) hS ?_; rotate_left 1; (focus (skip; go_simp; try with_reducible rfl)); simp only [Act.put, List.setIfInBounds_toArray, List.set_cons_zero, List.set_cons_succ])
      | (refine wpAnyHIn_take 16 (v := ?_) rfl (by kernel_rfl) (by kernel_rfl) (by kernel_rfl) (by decide +kernel) (fun _ _ _ h => h) (fun _ _ _ => trivial) (by rfl) (fun w' hSw => ?_) hS ?_; rotate_left 1; (focus (skip; go_simp; try with_reducible rfl)); simp only [Act.put, List.setIfInBounds_toArray, List.set_cons_zero, List.set_cons_succ]))
    refine wpAnyHIn_done (by kernel_rfl) ?_ _
    have GX := g.trans hS
    go_wp2_with fail
    go_ret
    exact ⟨rfl, GX⟩
  · subst hp0
    subst hm0
    refine (A1.out _ (HR.out.gr g) (HR'.out.gr g)).mono ?_
    rintro e w4 ⟨rfl, g2⟩
    have H4 := Lib.hid (g.trans g2).size
    have X15 := Lib.hid (show Box2 (w4.alloc (.cells #[.int .i64 0, .int .i64 q] 37)) w4.heap.size 0 q from Box2.new rfl)
    replace g2 := g2.alloc (.cells #[.int .i64 0, .int .i64 q] 37)
    replace g := g.trans g2
    clear g2
    go_wp2_with fail
    refine (A2.out _ (HR.out.gr g) (HR'.out.gr g)).mono ?_
    rintro e w5 ⟨rfl, g2⟩
    have X18 := Lib.hid (show Box2 (w5.alloc (.cells #[.int .i64 0, .int .i64 q] 37)) w5.heap.size 0 q from Box2.new rfl)
    replace g2 := g2.alloc (.cells #[.int .i64 0, .int .i64 q] 37)
    replace X15 := Lib.hid (X15.out.gr g2)
    replace g := g.trans g2
    clear g2
    go_wp2_with fail
    refine (A3.out _ (HR.out.gr g) (HR'.out.gr g)).mono ?_
    rintro e w6 ⟨rfl, g2⟩
    replace X15 := Lib.hid (X15.out.gr g2)
    replace X18 := Lib.hid (X18.out.gr g2)
    replace g := g.trans g2
    clear g2
    have hz15 : w4.heap.size < w6.heap.size := World.block_lt_of_cell? w6 _ X15.out.1
    have hz4 : w.heap.size ≤ w4.heap.size := H4.out
    obtain ⟨s0, s1, f0, f1⟩ := id X15.out
    obtain ⟨s2, s3, -, -⟩ := id X18.out
    have X16 := Lib.hid (show Box2 (w6.setCell ⟨w4.heap.size, 1, none⟩ (.int .i64 q)) w4.heap.size 0 q from X15.out.put1)
    have G7 := g.setAt (b := w4.heap.size) (j := 1) hz4 (.int .i64 q)
    clear X18
    go_wp2_with fail
    clear s0 s1 f0 f1 s2 s3 g X15
    refine (A4.out _ (HR.out.gr G7)).mono ?_
    rintro e w7 ⟨rfl, g2⟩
    have g := G7
    clear G7
    have X22 := Lib.hid (show Box2 (w7.alloc (.cells #[.int .i64 N1, .int .i64 N2] 37)) w7.heap.size N1 N2 from Box2.new rfl)
    replace g2 := g2.alloc (.cells #[.int .i64 N1, .int .i64 N2] 37)
    replace X16 := Lib.hid (X16.out.gr g2)
    replace g := g.trans g2
    clear g2
    go_wp2_with fail
    refine (A5.out _ (HR'.out.gr g)).mono ?_
    rintro e w8 ⟨rfl, g2⟩
    have X23 := Lib.hid (show Box2 (w8.alloc (.cells #[.int .i64 N3, .int .i64 N4] 37)) w8.heap.size N3 N4 from Box2.new rfl)
    replace g2 := g2.alloc (.cells #[.int .i64 N3, .int .i64 N4] 37)
    replace X16 := Lib.hid (X16.out.gr g2)
    replace X22 := Lib.hid (X22.out.gr g2)
    replace g := g.trans g2
    clear g2
    go_wp2_with fail
    refine (A6.out _ (HR.out.gr g)).mono ?_
    rintro e w9 ⟨rfl, g2⟩
    have X24 := Lib.hid (show Box2 (w9.alloc (.cells #[.int .i64 M1, .int .i64 M2] 37)) w9.heap.size M1 M2 from Box2.new rfl)
    replace g2 := g2.alloc (.cells #[.int .i64 M1, .int .i64 M2] 37)
    replace X16 := Lib.hid (X16.out.gr g2)
    replace X22 := Lib.hid (X22.out.gr g2)
    replace X23 := Lib.hid (X23.out.gr g2)
    replace g := g.trans g2
    clear g2
    go_wp2_with fail
    refine (A7.out _ (HR'.out.gr g)).mono ?_
    rintro e w10 ⟨rfl, g2⟩
    have X25 := Lib.hid (show Box2 (w10.alloc (.cells #[.int .i64 M3, .int .i64 M4] 37)) w10.heap.size M3 M4 from Box2.new rfl)
    replace g2 := g2.alloc (.cells #[.int .i64 M3, .int .i64 M4] 37)
    replace X16 := Lib.hid (X16.out.gr g2)
    replace X22 := Lib.hid (X22.out.gr g2)
    replace X23 := Lib.hid (X23.out.gr g2)
    replace X24 := Lib.hid (X24.out.gr g2)
    replace g := g.trans g2
    clear g2
    obtain ⟨s0, s1, -, -⟩ := id X16.out
    obtain ⟨s2, s3, -, -⟩ := id X22.out
    obtain ⟨s4, s5, -, -⟩ := id X23.out
    obtain ⟨s6, s7, -, -⟩ := id X24.out
    obtain ⟨s8, s9, -, -⟩ := id X25.out
    go_upto_region 18 with fail
    generalize hW : w10.alloc (.cells #[.int .i64 M3, .int .i64 M4] 37) = W1 at *
    clear hW X16 X22 X23 X24 X25 H4 hz15 hz4 A1 A2 A3 A4 A5 A6 A7 V1 V2 Hv Hv'
    refine (wpIn_wide (n := 3)).1 ?_
    refine wpIn_region_held (fun w' => Gr W1 w') 17 (by kernel_rfl) rfl rfl ?_
    have hS : Gr W1 W1.drew := (Gr.refl W1).drew
    iterate 3 (first
      | (refine wpAnyHIn_take 0 (v := ?_) rfl (by kernel_rfl) (by kernel_rfl) (by kernel_rfl) (by decide +kernel) (fun _ _ _ h => h) (fun _ _ _ => trivial) (by rfl) (fun w' hSw => ?_) hS ?_; rotate_left 1; (focus (have u0 := hSw.cell s0; have u1 := hSw.cell s1; have u2 := hSw.cell s2; have u3 := hSw.cell s3; have u4 := hSw.cell s4; have u5 := hSw.cell s5; go_simp; try with_reducible rfl)); simp only [Act.put, List.setIfInBounds_toArray, List.set_cons_zero, List.set_cons_succ])
      | (refine wpAnyHIn_take 1 (v := ?_) rfl (by kernel_rfl) (by kernel_rfl) (by kernel_rfl) (by decide +kernel) (fun _ _ _ h => h) (fun _ _ _ => trivial) (by rfl) (fun w' hSw => ?_) hS ?_; rotate_left 1; (focus (have u0 := hSw.cell s0; have u1 := hSw.cell s1; have u2 := hSw.cell s2; have u3 := hSw.cell s3; have u4 := hSw.cell s4; have u5 := hSw.cell s5; go_simp; try with_reducible rfl)); simp only [Act.put, List.setIfInBounds_toArray, List.set_cons_zero, List.set_cons_succ])
      | (refine wpAnyHIn_take 3 (v := ?_) rfl (by kernel_rfl) (by kernel_rfl) (by kernel_rfl) (by decide +kernel) (fun _ _ _ h => h) (fun _ _ _ => trivial) (by rfl) (fun w' hSw => ?_) hS ?_; rotate_left 1; (focus (have u0 := hSw.cell s0; have u1 := hSw.cell s1; have u2 := hSw.cell s2; have u3 := hSw.cell s3; have u4 := hSw.cell s4; have u5 := hSw.cell s5; go_simp; try with_reducible rfl)); simp only [Act.put, List.setIfInBounds_toArray, List.set_cons_zero, List.set_cons_succ]))
    refine wpAnyHIn_ready [2] (by kernel_rfl) (by simp) ?_
    refine AllHIn.cons rfl (by rfl) (fun K hK => ?_) AllHIn.nil
    go_simp
    refine ⟨trivial, ?_⟩
    refine (callsIn_wide.2 (LZ.out _)).mono ?_
    rintro e wX ⟨rfl, gX⟩
    have hS : Gr W1 wX := hS.trans gX
    refine hK.out _ _ hS ?_
    clear hK K gX
    refine wpAnyHIn_ready [4] (by kernel_rfl) (by simp) ?_
    refine AllHIn.cons rfl (by rfl) (fun K hK => ?_) AllHIn.nil
    go_simp
    refine ⟨trivial, ?_⟩
    refine (callsIn_wide.2 (MO.out _)).mono ?_
    rintro e wX ⟨rfl, gX⟩
    have hS : Gr W1 wX := hS.trans gX
    refine hK.out _ _ hS ?_
    clear hK K gX
    iterate 2 (first
      | (refine wpAnyHIn_take 5 (v := ?_) rfl (by kernel_rfl) (by kernel_rfl) (by kernel_rfl) (by decide +kernel) (fun _ _ _ h => h) (fun _ _ _ => trivial) (by rfl) (fun w' hSw => ?_) hS ?_; rotate_left 1; (focus (skip; go_simp; try with_reducible rfl)); simp only [Act.put, List.setIfInBounds_toArray, List.set_cons_zero, List.set_cons_succ])
      | (refine wpAnyHIn_take 6 (v := ?_) rfl (by kernel_rfl) (by kernel_rfl) (by kernel_rfl) (by decide +kernel) (fun _ _ _ h => h) (fun _ _ _ => trivial) (by rfl) (fun w' hSw => ?_) hS ?_; rotate_left 1; (focus (skip; go_simp; try with_reducible rfl)); simp only [Act.put, List.setIfInBounds_toArray, List.set_cons_zero, List.set_cons_succ]))
    iterate 3 (first
      | (refine wpAnyHIn_take 7 (v := ?_) rfl (by kernel_rfl) (by kernel_rfl) (by kernel_rfl) (by decide +kernel) (fun _ _ _ h => h) (fun _ _ _ => trivial) (by rfl) (fun w' hSw => ?_) hS ?_; rotate_left 1; (focus (have u0 := hSw.cell s0; have u1 := hSw.cell s1; have u2 := hSw.cell s6; have u3 := hSw.cell s7; have u4 := hSw.cell s8; have u5 := hSw.cell s9; go_simp; try with_reducible rfl)); simp only [Act.put, List.setIfInBounds_toArray, List.set_cons_zero, List.set_cons_succ])
      | (refine wpAnyHIn_take 8 (v := ?_) rfl (by kernel_rfl) (by kernel_rfl) (by kernel_rfl) (by decide +kernel) (fun _ _ _ h => h) (fun _ _ _ => trivial) (by rfl) (fun w' hSw => ?_) hS ?_; rotate_left 1; (focus (have u0 := hSw.cell s0; have u1 := hSw.cell s1; have u2 := hSw.cell s6; have u3 := hSw.cell s7; have u4 := hSw.cell s8; have u5 := hSw.cell s9; go_simp; try with_reducible rfl)); simp only [Act.put, List.setIfInBounds_toArray, List.set_cons_zero, List.set_cons_succ])
      | (refine wpAnyHIn_take 10 (v := ?_) rfl (by kernel_rfl) (by kernel_rfl) (by kernel_rfl) (by decide +kernel) (fun _ _ _ h => h) (fun _ _ _ => trivial) (by rfl) (fun w' hSw => ?_) hS ?_; rotate_left 1; (focus (have u0 := hSw.cell s0; have u1 := hSw.cell s1; have u2 := hSw.cell s6; have u3 := hSw.cell s7; have u4 := hSw.cell s8; have u5 := hSw.cell s9; go_simp; try with_reducible rfl)); simp only [Act.put, List.setIfInBounds_toArray, List.set_cons_zero, List.set_cons_succ]))
    refine wpAnyHIn_ready [9] (by kernel_rfl) (by simp) ?_
    refine AllHIn.cons rfl (by rfl) (fun K hK => ?_) AllHIn.nil
    go_simp
    refine ⟨trivial, ?_⟩
    refine (callsIn_wide.2 (LM.out _)).mono ?_
    rintro e wX ⟨rfl, gX⟩
    have hS : Gr W1 wX := hS.trans gX
    refine hK.out _ _ hS ?_
    clear hK K gX
    iterate 3 (first
      | (refine wpAnyHIn_take 11 (v := ?_) rfl (by kernel_rfl) (by kernel_rfl) (by kernel_rfl) (by decide +kernel) (fun _ _ _ h => h) (fun _ _ _ => trivial) (by rfl) (fun w' hSw => ?_) hS ?_; rotate_left 1; (focus (skip; go_simp; try with_reducible rfl)); simp only [Act.put, List.setIfInBounds_toArray, List.set_cons_zero, List.set_cons_succ])
      | (refine wpAnyHIn_take 12 (v := ?_) rfl (by kernel_rfl) (by kernel_rfl) (by kernel_rfl) (by decide +kernel) (fun _ _ _ h => h) (fun _ _ _ => trivial) (by rfl) (fun w' hSw => ?_) hS ?_; rotate_left 1; (focus (skip; go_simp; try with_reducible rfl)); simp only [Act.put, List.setIfInBounds_toArray, List.set_cons_zero, List.set_cons_succ])
      | (refine wpAnyHIn_take 13 (v := ?_) rfl (by kernel_rfl) (by kernel_rfl) (by kernel_rfl) (by decide +kernel) (fun _ _ _ h => h) (fun _ _ _ => trivial) (by rfl) (fun w' hSw => ?_) hS ?_; rotate_left 1; (focus (skip; go_simp; try with_reducible rfl)); simp only [Act.put, List.setIfInBounds_toArray, List.set_cons_zero, List.set_cons_succ]))
    refine wpAnyHIn_ready [14] (by kernel_rfl) (by simp) ?_
    refine AllHIn.cons rfl (by rfl) (fun K hK => ?_) AllHIn.nil
    go_simp
    refine ⟨trivial, ?_⟩
    refine (callsIn_wide.2 (Awake_any _)).mono ?_
    rintro e wX ⟨rfl, gX⟩
    have hS : Gr W1 wX := hS.trans gX
    refine hK.out _ _ hS ?_
    clear hK K gX
    iterate 2 (first
      | (refine wpAnyHIn_take 15 (v := ?_) rfl (by kernel_rfl) (by kernel_rfl) (by kernel_rfl) (by decide +kernel) (fun _ _ _ h => h) (fun _ _ _ => trivial) (by rfl) (fun w' hSw => ?_) hS ?_; rotate_left 1; (focus (skip; go_simp; try with_reducible rfl)); simp only [Act.put, List.setIfInBounds_toArray, List.set_cons_zero, List.set_cons_succ])
      | (refine wpAnyHIn_take 16 (v := ?_) rfl (by kernel_rfl) (by kernel_rfl) (by kernel_rfl) (by decide +kernel) (fun _ _ _ h => h) (fun _ _ _ => trivial) (by rfl) (fun w' hSw => ?_) hS ?_; rotate_left 1; (focus (skip; go_simp; try with_reducible rfl)); simp only [Act.put, List.setIfInBounds_toArray, List.set_cons_zero, List.set_cons_succ]))
    refine wpAnyHIn_done (by kernel_rfl) ?_ _
    have GX := g.trans hS
    go_wp2_with fail
    go_ret
    exact ⟨rfl, GX⟩

set_option maxRecDepth 100000 in
theorem walk_far (a a' : Option Addr) (n c n' c' : Nat) (L T L' T' : Nat → Int) (lo sp at_ : Int) (w : World) (hn : n ≤ 9223372036854775807) (hn' : n' ≤ 9223372036854775807) (hr : RdM w a n L T) (hr' : RdM w a' n' L' T')
    (hd : 100 < n ∨ (¬ 100 < n ∧ 100 < n') ∨ (¬ 100 < n ∧ ¬ 100 < n' ∧ vK n L T = false) ∨ (¬ 100 < n ∧ ¬ 100 < n' ∧ vK n L T = true ∧ vK n' L' T' = false)) :
    Calls Try.prog 12 #[.slice a n c, .slice a' n' c', .int .u32 lo, .int .u16 sp, .int .u16 at_] w (RetB true w) := by
  have V1 := Lib.hid (fun b (hb : vK n L T = b) w1 h => show Calls Try.prog 34 #[.slice a n c] w1 (RetB b w1) by have := refValidClock_any a n c L T w1 hn h; rwa [hb] at this)
  have V2 := Lib.hid (fun b (hb : vK n' L' T' = b) w1 h => show Calls Try.prog 34 #[.slice a' n' c'] w1 (RetB b w1) by have := refValidClock_any a' n' c' L' T' w1 hn' h; rwa [hb] at this)
  have HR := Lib.hid hr
  have HR' := Lib.hid hr'
  clear hr hr'
  rcases hd with h1 | ⟨h1, h2⟩ | ⟨h1, h2, h3⟩ | ⟨h1, h2, h3, h4⟩
  · go_enter Try.func12, Try.ntmps12
    go_wp2_with (first
      | (go_at_call 30; refine (Long_any a n c _ hn).mono ?_; rintro e w1 ⟨rfl, rfl⟩)
      | (go_at_call 17; refine (Awake_any _).mono ?_; rintro e w6 ⟨rfl, g2⟩))
    go_ret
    exact ⟨rfl, g2⟩
  · go_enter Try.func12, Try.ntmps12
    go_wp2_with (first
      | (go_at_call 30; refine (Long_any a n c _ hn).mono ?_; rintro e w1 ⟨rfl, rfl⟩)
      | (go_at_call 30; refine (Long_any a' n' c' _ hn').mono ?_; rintro e w1 ⟨rfl, rfl⟩)
      | (go_at_call 17; refine (Awake_any _).mono ?_; rintro e w6 ⟨rfl, g2⟩))
    go_ret
    exact ⟨rfl, g2⟩
  · have W1 := Lib.hid (V1.out false h3)
    clear V1 V2 h3
    go_enter Try.func12, Try.ntmps12
    go_wp2_with (first
      | (go_at_call 30; refine (Long_any a n c _ hn).mono ?_; rintro e w1 ⟨rfl, rfl⟩)
      | (go_at_call 30; refine (Long_any a' n' c' _ hn').mono ?_; rintro e w1 ⟨rfl, rfl⟩))
    refine (W1.out _ HR.out).mono ?_
    rintro e w2 ⟨rfl, g⟩
    go_wp2_with (go_at_call 17; refine (Awake_any _).mono ?_; rintro e w6 ⟨rfl, g2⟩)
    go_ret
    exact ⟨rfl, g.trans g2⟩
  · have W1 := Lib.hid (V1.out true h3)
    have W2 := Lib.hid (V2.out false h4)
    clear V1 V2 h3 h4
    go_enter Try.func12, Try.ntmps12
    go_wp2_with (first
      | (go_at_call 30; refine (Long_any a n c _ hn).mono ?_; rintro e w1 ⟨rfl, rfl⟩)
      | (go_at_call 30; refine (Long_any a' n' c' _ hn').mono ?_; rintro e w1 ⟨rfl, rfl⟩))
    refine (W1.out _ HR.out).mono ?_
    rintro e w2 ⟨rfl, g⟩
    go_wp2_with fail
    refine (W2.out _ (HR'.out.gr g)).mono ?_
    rintro e w3 ⟨rfl, g3⟩
    go_wp2_with (go_at_call 17; refine (Awake_any _).mono ?_; rintro e w6 ⟨rfl, g2⟩)
    go_ret
    exact ⟨rfl, (g.trans g3).trans g2⟩

theorem walk (a : Option Addr) (n c : Nat) (L T : Nat → Int) (a' : Option Addr) (n' c' : Nat) (L' T' : Nat → Int) (lo sp at_ : Int) (w : World) (hn : n ≤ 9223372036854775807) (_wf : ∀ i, i < n → (Lit.int .i64 (L i)).wf = true ∧ (Lit.int .i64 (T i)).wf = true) (hr : RdM w a n L T)
    (hn' : n' ≤ 9223372036854775807) (_wf' : ∀ i, i < n' → (Lit.int .i64 (L' i)).wf = true ∧ (Lit.int .i64 (T' i)).wf = true) (hr' : RdM w a' n' L' T') (w1 : (Lit.int .u32 lo).wf = true) (w2 : (Lit.int .u16 sp).wf = true) (w3 : (Lit.int .u16 at_).wf = true) :
    Calls Try.prog 12 #[.slice a n c, .slice a' n' c', .int .u32 lo, .int .u16 sp, .int .u16 at_] w (RetB true w) := by
  have hl : 0 ≤ lo ∧ lo ≤ 4294967295 := by
    simp [Lit.wf, IntKind.min, IntKind.max, IntKind.signed, IntKind.bits] at w1
    omega
  have hl2 : 0 ≤ sp ∧ sp ≤ 65535 := by
    simp [Lit.wf, IntKind.min, IntKind.max, IntKind.signed, IntKind.bits] at w2
    omega
  have hl3 : 0 ≤ at_ ∧ at_ ≤ 65535 := by
    simp [Lit.wf, IntKind.min, IntKind.max, IntKind.signed, IntKind.bits] at w3
    omega
  by_cases hs : 100 < n
  · exact walk_far a a' n c n' c' L T L' T' lo sp at_ w hn hn' hr hr' (.inl hs)
  by_cases hs' : 100 < n'
  · exact walk_far a a' n c n' c' L T L' T' lo sp at_ w hn hn' hr hr' (.inr (.inl ⟨hs, hs'⟩))
  cases hv : vK n L T with
  | false => exact walk_far a a' n c n' c' L T L' T' lo sp at_ w hn hn' hr hr' (.inr (.inr (.inl ⟨hs, hs', hv⟩)))
  | true =>
    cases hv' : vK n' L' T' with
    | false => exact walk_far a a' n c n' c' L T L' T' lo sp at_ w hn hn' hr hr' (.inr (.inr (.inr ⟨hs, hs', hv, hv'⟩)))
    | true => exact walk_ok a a' n c n' c' L T L' T' lo sp at_ w hn hn' hr hr' hs hs' hv hv' hl.1 hl.2 hl2.1 hl2.2 hl3.1 hl3.2

set_option maxRecDepth 100000 in
theorem lifted (os : Os) (started : os.Started) (H : Type) (enc : TypeId × Value → H) :
    ReturnsInHanded {} Try.checked os 12 .any (Rows.tickFarSpec.pre6 enc Try.prog Try.f12 Rows.tickFarRow.domain false) (Rows.tickFarSpec.post enc Try.prog Try.f12 false true false false) := by
  refine returnsInHanded_of_change (C := Try.checked) own started (by kernel_rfl) Try.func12
    (ChangeSpec.witness6 (enc := enc) (C := Try.checked) false ⟨#[], #[.slice none 0 0, .slice none 0 0, .int .u32 0, .int .u16 0, .int .u16 0], []⟩ 8 (by kernel_rfl) (by kernel_rfl) (by kernel_rfl) (by kernel_rfl)) ?_
  intro W base args ds gs before hval0 hW hcnd _
  have hval : ∀ (j : Nat) t v, Try.f12.params[j]? = some t → args[j]? = some v → Value.okWide Try.prog W .any base t v := hval0
  have hW' := hW
  obtain ⟨p, q, hA0, hV, rfl, hfz, hnd⟩ := hW
  have hA : DataW.TrodAll enc Try.prog W 0 (fun _ => true) true Try.f12.params.toList args.toList ds p := hA0
  rw [Try.params12] at hA hval
  obtain ⟨v0, vs0, d0, ds0, p0, q0, hargs, rfl, rfl, h0, r0⟩ := trodAll_cons hA
  obtain ⟨v1, vs1, d1, ds1, p1, q1, rfl, rfl, rfl, h1, r1⟩ := trodAll_cons r0
  obtain ⟨v2, vs2, d2, ds2, p2, q2, rfl, rfl, rfl, h2, r2⟩ := trodAll_cons r1
  obtain ⟨v3, vs3, d3, ds3, p3, q3, rfl, rfl, rfl, h3, r3⟩ := trodAll_cons r2
  obtain ⟨v4, vs4, d4, ds4, p4, q4, rfl, rfl, rfl, h4, r4⟩ := trodAll_cons r3
  obtain ⟨rfl, rfl, rfl⟩ := trodAll_nil r4
  obtain rfl : args = #[v0, v1, v2, v3, v4] := by cases args; simp_all
  obtain ⟨rfl, rfl⟩ := trodVars_none hV
  obtain ⟨a0, len0, cap0, rfl⟩ := okWide_slice Try.underlying35 (hval 0 35 v0 rfl rfl)
  have k0 := h0
  have lt0 : ∀ x ∈ p0, x.block < W.heap.size := by obtain ⟨m, hm⟩ := k0; exact DataW.trod_lt m _ _ _ hm
  obtain ⟨x0, y0, wn0, wf0, wr0⟩ : ∃ f g : Nat → Int, len0 ≤ 9223372036854775807 ∧ (∀ i, i < len0 → (Lit.int .i64 (f i)).wf = true ∧ (Lit.int .i64 (g i)).wf = true) ∧ RdM W a0 len0 f g := by
    obtain ⟨fuel, hf⟩ := h0
    exact RdM.of_trod Try.underlying35 Try.underlying64 (by kernel_rfl) ⟨rfl, rfl⟩ ⟨rfl, rfl⟩ (by kernel_rfl) Try.underlying3 hf
  obtain ⟨a1, len1, cap1, rfl⟩ := okWide_slice Try.underlying35 (hval 1 35 v1 rfl rfl)
  have k1 := h1
  have lt1 : ∀ x ∈ p1, x.block < W.heap.size := by obtain ⟨m, hm⟩ := k1; exact DataW.trod_lt m _ _ _ hm
  obtain ⟨x1, y1, wn1, wf1, wr1⟩ : ∃ f g : Nat → Int, len1 ≤ 9223372036854775807 ∧ (∀ i, i < len1 → (Lit.int .i64 (f i)).wf = true ∧ (Lit.int .i64 (g i)).wf = true) ∧ RdM W a1 len1 f g := by
    obtain ⟨fuel, hf⟩ := h1
    exact RdM.of_trod Try.underlying35 Try.underlying64 (by kernel_rfl) ⟨rfl, rfl⟩ ⟨rfl, rfl⟩ (by kernel_rfl) Try.underlying3 hf
  obtain ⟨a2, rfl, rfl, rfl, w2⟩ := open_int Try.underlying43 (hval 2 43 v2 rfl rfl) h2
  obtain ⟨a3, rfl, rfl, rfl, w3⟩ := open_int Try.underlying60 (hval 3 60 v3 rfl rfl) h3
  obtain ⟨a4, rfl, rfl, rfl, w4⟩ := open_int Try.underlying60 (hval 4 60 v4 rfl rfl) h4
  clear hA0 hval0
  refine (walk a0 len0 cap0 x0 y0 a1 len1 cap1 x1 y1 a2 a3 a4 W wn0 wf0 wr0 wn1 wf1 wr1 w2 w3 w4).mono fun e W' ⟨he, bel⟩ => ?_
  subst he
  exact ⟨_, rfl, _, _, _, [], _, [], hW', trodAll_mk1 (shut_bool Try.underlying4 _), (trodAll_cons_mk (Below.trod laidOut (by kernel_rfl) (of_decide_eq_true (by kernel_rfl)) k0 bel lt0) (trodAll_cons_mk (Below.trod laidOut (by kernel_rfl) (of_decide_eq_true (by kernel_rfl)) k1 bel lt1) (trodAll_cons_mk (shut_int Try.underlying43 w2) (trodAll_cons_mk (shut_int Try.underlying60 w3) (trodAll_cons_mk (shut_int Try.underlying60 w4) trodAll_mk0))))), rfl, bel.frame _, fun h => by cases h⟩

theorem over : Rows.tickFarRow.holds Try.pinned (OpenSpec.ofChange Rows.tickFarSpec) :=
  OpenClaim.holds_of_wide 12 Try.f12 rfl rfl rfl rfl rfl rfl rfl ⟨rfl, rfl, rfl, rfl, rfl⟩ rfl rfl rfl rfl rfl (by kernel_rfl) Try.func12 (by kernel_rfl)
    (of_decide_eq_true (by kernel_rfl)) (by unfold Func.isWrapper; first | (rw [if_pos (by decide +kernel)]; kernel_rfl) | (rw [if_neg (by decide +kernel)]; exact ⟨rfl, rfl⟩))
    (fun os started H enc _ => lifted os started H enc)

/-- The statement. -/
theorem proved : Rows.TickFarSaid := over
end Go.Proofs.Ytdlbgelidcfmiaa.tickFar
