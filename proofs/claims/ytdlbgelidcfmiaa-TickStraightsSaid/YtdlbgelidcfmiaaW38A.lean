/- The walk of TickStraights, case A (printed by gen_straights2.py). -/
import Derived.Test.YtdlbgelidcfmiaaWZ
namespace Go.Proofs.Ytdlbgelidcfmiaa.tickStraights
open Go.RowKit Go.Firn

set_option maxRecDepth 100000 in
set_option maxHeartbeats 8000000 in
theorem walk_A (a a' : Option Addr) (n c n' c' : Nat) (L T L' T' : Nat → Int) (w : World) (hn : n ≤ 9223372036854775807) (hn' : n' ≤ 9223372036854775807) (hr : RdM w a n L T) (hr' : RdM w a' n' L' T') (hs : ¬ 100 < n) (hs' : ¬ 100 < n')
    (hv : vK n L T = true) (hv' : vK n' L' T' = true) (h1 : eqM (kM n L T - 2) (kM n' L' T' - 2) (fun i => kL n L T (i + 1)) (fun i => kT n L T (i + 1)) (fun i => kL n' L' T' (i + 1)) (fun i => kT n' L' T' (i + 1)) = true) (h2 : slB (kL n L T 0) (kT n L T 0) (kL n L T 1) (kT n L T 1) (kL n' L' T' 0) (kT n' L' T' 0) (kL n' L' T' 1) (kT n' L' T' 1) = true) (h3 : slB (kL n L T (kM n L T - 2)) (kT n L T (kM n L T - 2)) (kL n L T (kM n L T - 1)) (kT n L T (kM n L T - 1)) (kL n' L' T' (kM n' L' T' - 2)) (kT n' L' T' (kM n' L' T' - 2)) (kL n' L' T' (kM n' L' T' - 1)) (kT n' L' T' (kM n' L' T' - 1)) = true) (hx : ¬ L 0 = L' 0) :
    Calls Try.prog 13 #[.slice a n c, .slice a' n' c'] w (RetB true w) := by
  have V1 := Lib.hid (fun w1 h => show Calls Try.prog 34 #[.slice a n c] w1 (RetB true w1) by have := refValidClock_any a n c L T w1 hn h; rwa [hv] at this)
  have V2 := Lib.hid (fun w1 h => show Calls Try.prog 34 #[.slice a' n' c'] w1 (RetB true w1) by have := refValidClock_any a' n' c' L' T' w1 hn' h; rwa [hv'] at this)
  have HR := Lib.hid hr
  have HR' := Lib.hid hr'
  have Hv := Lib.hid hv
  have Hv' := Lib.hid hv'
  obtain ⟨S1, SD⟩ := calls_of hv hv' a a' c c'
  obtain ⟨S2, -⟩ := calls_of hv' hv a' a c' c
  obtain ⟨S3, SA⟩ := calls_kept hv a c
  have M2 := kM_two hv
  have M2' := kM_two hv'
  have ML := kM_le n L T
  have ML' := kM_le n' L' T'
  have LK : Like (kM n L T) (kL n L T) (kT n L T) (kM n' L' T') (kL n' L' T') (kT n' L' T') := (like_iff M2 M2').2 ⟨h1, h2, h3⟩
  have hb : true = true ↔ Like (kM n L T) (kL n L T) (kT n L T) (kM n' L' T') (kL n' L' T') (kT n' L' T') := ⟨fun _ => LK, fun _ => rfl⟩
  have LM := Lib.hid LK.len
  have SD' := Lib.hid (fun w h h' => SD w h h' true hb)
  replace S1 := Lib.hid S1
  replace S2 := Lib.hid S2
  replace S3 := Lib.hid S3
  replace SA := Lib.hid SA
  have HB := Lib.hid hb
  have F1 := Lib.hid (kept_first hv)
  have F2 := Lib.hid (kept_first hv')
  have E1 := Lib.hid (kept_last hv)
  have E2 := Lib.hid (kept_last hv')
  have KB := Lib.hid (vK_true.1 (vK_kept hv)).2.2.1
  have KB' := Lib.hid (vK_true.1 (vK_kept hv')).2.2.1
  have hn2 := (vK_true.1 hv).1
  have hn2' := (vK_true.1 hv').1
  clear hb LK hr hr' hv hv' SD Hv Hv'
  generalize kM n L T = m at *
  generalize kL n L T = f at *
  generalize kT n L T = g at *
  generalize kM n' L' T' = m' at *
  generalize kL n' L' T' = f' at *
  generalize kT n' L' T' = g' at *
  have EA := Lib.hid (fun a2 c2 a3 c3 w h h' => eq_same m f g f g (fun _ _ => ⟨rfl, rfl⟩) a2 a3 c2 c3 w (by omega) h h')
  have p1 : decide ((m : Int) < 2) = false := by simp; omega
  have p2 : decide ((m' : Int) < 2) = false := by simp; omega
  go_enter Try.func13, Try.ntmps13
  go_wp2_with (first
    | (go_at_call 30; refine (Long_any a n c _ hn).mono ?_; rintro e w1 ⟨rfl, rfl⟩)
    | (go_at_call 30; refine (Long_any a' n' c' _ hn').mono ?_; rintro e w1 ⟨rfl, rfl⟩))
  refine (V1.out _ HR.out).mono ?_
  rintro e w2 ⟨rfl, G⟩
  go_wp2_with fail
  refine (V2.out _ (HR'.out.gr G)).mono ?_
  rintro e w3 ⟨rfl, g2⟩
  replace G := G.trans g2
  clear g2
  go_wp2_with fail
  refine (S1.out _ (HR.out.gr G)).mono ?_
  rintro e w4 ⟨a1, c1, rfl, k1, k2, ra, g2⟩
  replace G := G.trans g2
  clear g2
  go_wp2_with fail
  refine (S2.out _ (HR'.out.gr G)).mono ?_
  rintro e w5 ⟨a2, c2, rfl, k3, k4, rb, g2⟩
  replace G := G.trans g2
  replace ra := ra.gr g2
  clear g2
  go_wp2_with fail
  refine (S3.out _ _ _ ra).mono ?_
  rintro e w6 ⟨a3, c3, rfl, k5, k6, rc, g2⟩
  replace G := G.trans g2
  replace ra := ra.gr g2
  replace rb := rb.gr g2
  clear g2
  go_wp2_with fail
  refine (SA.out _ _ _ (HR.out.gr G) ra).mono ?_
  rintro e w7 ⟨rfl, g2⟩
  replace G := G.trans g2
  replace ra := ra.gr g2
  replace rb := rb.gr g2
  replace rc := rc.gr g2
  clear g2
  go_wp2_with fail
  refine (SD'.out _ (HR.out.gr G) (HR'.out.gr G)).mono ?_
  rintro e w8 ⟨rfl, g2⟩
  replace G := G.trans g2
  replace ra := ra.gr g2
  replace rb := rb.gr g2
  replace rc := rc.gr g2
  clear g2
  go_wp2_with fail
  refine (EA.out _ _ _ _ _ rc ra).mono ?_
  rintro e wz ⟨rfl, dn, rfl⟩
  have g2 : Gr w8 (w8.drewN dn) := (Gr.refl w8).drewN dn
  replace G := G.trans g2
  replace ra := ra.gr g2
  replace rb := rb.gr g2
  clear g2 rc
  generalize w8.drewN dn = w9 at *
  go_upto_region 10 with fail
  obtain ⟨ba, oa, rfl, ca⟩ := ra.at (k := 0) (by omega)
  obtain ⟨bb, ob, rfl, cb⟩ := rb.at (k := 0) (by omega)
  have CA := Lib.hid ca
  have CB := Lib.hid cb
  obtain ⟨bc, oc, rfl, cc⟩ := (HR.out.gr G).at (k := 0) (by omega)
  obtain ⟨bd, od, rfl, cd⟩ := (HR'.out.gr G).at (k := 0) (by omega)
  have c0 : w9.cell? ⟨bc, oc, none⟩ = some (.int .i64 (L 0)) := by have := (cc 0 (by omega)).1; simpa using this
  have c1' : w9.cell? ⟨bc, oc + 1, none⟩ = some (.int .i64 (T 0)) := by have := (cc 0 (by omega)).2; simpa using this
  have c2' := (cc (n - 1) (by omega)).1
  have c3' := (cc (n - 1) (by omega)).2
  have d0 : w9.cell? ⟨bd, od, none⟩ = some (.int .i64 (L' 0)) := by have := (cd 0 (by omega)).1; simpa using this
  have d1 : w9.cell? ⟨bd, od + 1, none⟩ = some (.int .i64 (T' 0)) := by have := (cd 0 (by omega)).2; simpa using this
  have d2 := (cd (n' - 1) (by omega)).1
  have d3 := (cd (n' - 1) (by omega)).2
  have v1 : IntKind.i64.wrap ((n : Int) - 1) = (n : Int) - 1 := IntWalk.i64_in _ (by omega)
  have v2 : IntKind.i64.wrap ((n' : Int) - 1) = (n' : Int) - 1 := IntWalk.i64_in _ (by omega)
  have v3 : ((n : Int) - 1).toNat = n - 1 := by omega
  have v4 : ((n' : Int) - 1).toNat = n' - 1 := by omega
  have v5 : (1 : Int) ≤ (n : Int) := by omega
  have v6 : (1 : Int) ≤ (n' : Int) := by omega
  have v7 : 0 < n := by omega
  have v8 : 0 < n' := by omega
  have v9 : ¬ n' < m := by have := LM.out; omega
  clear ca cb cc cd V1 V2 S1 S2 S3 SA SD' EA HB
  refine (wpIn_wide (n := 3)).1 ?_
  refine wpIn_region_held (fun w' => Gr w9 w') 38 (by kernel_rfl) rfl rfl ?_
  have hS : Gr w9 w9.drew := (Gr.refl w9).drew
  iterate 2 (first
    | (refine wpAnyHIn_take 0 (v := ?_) rfl (by kernel_rfl) (by kernel_rfl) (by kernel_rfl) (by decide +kernel) (fun _ _ _ h => h) (fun _ _ _ => trivial) (by rfl) (fun w' hSw => ?_) hS ?_; rotate_left 1; (focus (skip; go_simp; try with_reducible rfl)); simp only [Act.put, List.setIfInBounds_toArray, List.set_cons_zero, List.set_cons_succ])
    | (refine wpAnyHIn_take 1 (v := ?_) rfl (by kernel_rfl) (by kernel_rfl) (by kernel_rfl) (by decide +kernel) (fun _ _ _ h => h) (fun _ _ _ => trivial) (by rfl) (fun w' hSw => ?_) hS ?_; rotate_left 1; (focus (skip; go_simp; try with_reducible rfl)); simp only [Act.put, List.setIfInBounds_toArray, List.set_cons_zero, List.set_cons_succ]))
  iterate 7 (first
    | (refine wpAnyHIn_take 2 (v := ?_) rfl (by kernel_rfl) (by kernel_rfl) (by kernel_rfl) (by decide +kernel) (fun _ _ _ h => h) (fun _ _ _ => trivial) (by rfl) (fun w' hSw => ?_) hS ?_; rotate_left 1; (focus (have u0 := hSw.cell c0; have u1 := hSw.cell c1'; have u2 := hSw.cell d0; have u3 := hSw.cell d1; have u4 := hSw.cell c2'; have u5 := hSw.cell c3'; have u6 := hSw.cell d2; have u7 := hSw.cell d3; go_simp; try with_reducible rfl)); simp only [Act.put, List.setIfInBounds_toArray, List.set_cons_zero, List.set_cons_succ])
    | (refine wpAnyHIn_take 3 (v := ?_) rfl (by kernel_rfl) (by kernel_rfl) (by kernel_rfl) (by decide +kernel) (fun _ _ _ h => h) (fun _ _ _ => trivial) (by rfl) (fun w' hSw => ?_) hS ?_; rotate_left 1; (focus (have u0 := hSw.cell c0; have u1 := hSw.cell c1'; have u2 := hSw.cell d0; have u3 := hSw.cell d1; have u4 := hSw.cell c2'; have u5 := hSw.cell c3'; have u6 := hSw.cell d2; have u7 := hSw.cell d3; go_simp; try with_reducible rfl)); simp only [Act.put, List.setIfInBounds_toArray, List.set_cons_zero, List.set_cons_succ])
    | (refine wpAnyHIn_take 4 (v := ?_) rfl (by kernel_rfl) (by kernel_rfl) (by kernel_rfl) (by decide +kernel) (fun _ _ _ h => h) (fun _ _ _ => trivial) (by rfl) (fun w' hSw => ?_) hS ?_; rotate_left 1; (focus (have u0 := hSw.cell c0; have u1 := hSw.cell c1'; have u2 := hSw.cell d0; have u3 := hSw.cell d1; have u4 := hSw.cell c2'; have u5 := hSw.cell c3'; have u6 := hSw.cell d2; have u7 := hSw.cell d3; go_simp; try with_reducible rfl)); simp only [Act.put, List.setIfInBounds_toArray, List.set_cons_zero, List.set_cons_succ])
    | (refine wpAnyHIn_take 5 (v := ?_) rfl (by kernel_rfl) (by kernel_rfl) (by kernel_rfl) (by decide +kernel) (fun _ _ _ h => h) (fun _ _ _ => trivial) (by rfl) (fun w' hSw => ?_) hS ?_; rotate_left 1; (focus (have u0 := hSw.cell c0; have u1 := hSw.cell c1'; have u2 := hSw.cell d0; have u3 := hSw.cell d1; have u4 := hSw.cell c2'; have u5 := hSw.cell c3'; have u6 := hSw.cell d2; have u7 := hSw.cell d3; go_simp; try with_reducible rfl)); simp only [Act.put, List.setIfInBounds_toArray, List.set_cons_zero, List.set_cons_succ])
    | (refine wpAnyHIn_take 6 (v := ?_) rfl (by kernel_rfl) (by kernel_rfl) (by kernel_rfl) (by decide +kernel) (fun _ _ _ h => h) (fun _ _ _ => trivial) (by rfl) (fun w' hSw => ?_) hS ?_; rotate_left 1; (focus (have u0 := hSw.cell c0; have u1 := hSw.cell c1'; have u2 := hSw.cell d0; have u3 := hSw.cell d1; have u4 := hSw.cell c2'; have u5 := hSw.cell c3'; have u6 := hSw.cell d2; have u7 := hSw.cell d3; go_simp; try with_reducible rfl)); simp only [Act.put, List.setIfInBounds_toArray, List.set_cons_zero, List.set_cons_succ])
    | (refine wpAnyHIn_take 7 (v := ?_) rfl (by kernel_rfl) (by kernel_rfl) (by kernel_rfl) (by decide +kernel) (fun _ _ _ h => h) (fun _ _ _ => trivial) (by rfl) (fun w' hSw => ?_) hS ?_; rotate_left 1; (focus (have u0 := hSw.cell c0; have u1 := hSw.cell c1'; have u2 := hSw.cell d0; have u3 := hSw.cell d1; have u4 := hSw.cell c2'; have u5 := hSw.cell c3'; have u6 := hSw.cell d2; have u7 := hSw.cell d3; go_simp; try with_reducible rfl)); simp only [Act.put, List.setIfInBounds_toArray, List.set_cons_zero, List.set_cons_succ])
    | (refine wpAnyHIn_take 8 (v := ?_) rfl (by kernel_rfl) (by kernel_rfl) (by kernel_rfl) (by decide +kernel) (fun _ _ _ h => h) (fun _ _ _ => trivial) (by rfl) (fun w' hSw => ?_) hS ?_; rotate_left 1; (focus (have u0 := hSw.cell c0; have u1 := hSw.cell c1'; have u2 := hSw.cell d0; have u3 := hSw.cell d1; have u4 := hSw.cell c2'; have u5 := hSw.cell c3'; have u6 := hSw.cell d2; have u7 := hSw.cell d3; go_simp; try with_reducible rfl)); simp only [Act.put, List.setIfInBounds_toArray, List.set_cons_zero, List.set_cons_succ]))
  iterate 2 (first
    | (refine wpAnyHIn_take 9 (v := ?_) rfl (by kernel_rfl) (by kernel_rfl) (by kernel_rfl) (by decide +kernel) (fun _ _ _ h => h) (fun _ _ _ => trivial) (by rfl) (fun w' hSw => ?_) hS ?_; rotate_left 1; (focus (skip; go_simp; try with_reducible rfl)); simp only [Act.put, List.setIfInBounds_toArray, List.set_cons_zero, List.set_cons_succ])
    | (refine wpAnyHIn_take 10 (v := ?_) rfl (by kernel_rfl) (by kernel_rfl) (by kernel_rfl) (by decide +kernel) (fun _ _ _ h => h) (fun _ _ _ => trivial) (by rfl) (fun w' hSw => ?_) hS ?_; rotate_left 1; (focus (skip; go_simp; try with_reducible rfl)); simp only [Act.put, List.setIfInBounds_toArray, List.set_cons_zero, List.set_cons_succ]))
  iterate 13 (first
    | (refine wpAnyHIn_skip 11 rfl (by kernel_rfl) (by kernel_rfl) (by kernel_rfl) (by decide +kernel) (fun _ _ _ h => h) (fun _ _ _ => trivial) (by rfl) hS ?_; simp only [Act.put, List.setIfInBounds_toArray, List.set_cons_zero, List.set_cons_succ])
    | (refine wpAnyHIn_skip 12 rfl (by kernel_rfl) (by kernel_rfl) (by kernel_rfl) (by decide +kernel) (fun _ _ _ h => h) (fun _ _ _ => trivial) (by rfl) hS ?_; simp only [Act.put, List.setIfInBounds_toArray, List.set_cons_zero, List.set_cons_succ])
    | (refine wpAnyHIn_skip 13 rfl (by kernel_rfl) (by kernel_rfl) (by kernel_rfl) (by decide +kernel) (fun _ _ _ h => h) (fun _ _ _ => trivial) (by rfl) hS ?_; simp only [Act.put, List.setIfInBounds_toArray, List.set_cons_zero, List.set_cons_succ])
    | (refine wpAnyHIn_skip 14 rfl (by kernel_rfl) (by kernel_rfl) (by kernel_rfl) (by decide +kernel) (fun _ _ _ h => h) (fun _ _ _ => trivial) (by rfl) hS ?_; simp only [Act.put, List.setIfInBounds_toArray, List.set_cons_zero, List.set_cons_succ])
    | (refine wpAnyHIn_skip 15 rfl (by kernel_rfl) (by kernel_rfl) (by kernel_rfl) (by decide +kernel) (fun _ _ _ h => h) (fun _ _ _ => trivial) (by rfl) hS ?_; simp only [Act.put, List.setIfInBounds_toArray, List.set_cons_zero, List.set_cons_succ])
    | (refine wpAnyHIn_skip 16 rfl (by kernel_rfl) (by kernel_rfl) (by kernel_rfl) (by decide +kernel) (fun _ _ _ h => h) (fun _ _ _ => trivial) (by rfl) hS ?_; simp only [Act.put, List.setIfInBounds_toArray, List.set_cons_zero, List.set_cons_succ])
    | (refine wpAnyHIn_skip 17 rfl (by kernel_rfl) (by kernel_rfl) (by kernel_rfl) (by decide +kernel) (fun _ _ _ h => h) (fun _ _ _ => trivial) (by rfl) hS ?_; simp only [Act.put, List.setIfInBounds_toArray, List.set_cons_zero, List.set_cons_succ])
    | (refine wpAnyHIn_skip 18 rfl (by kernel_rfl) (by kernel_rfl) (by kernel_rfl) (by decide +kernel) (fun _ _ _ h => h) (fun _ _ _ => trivial) (by rfl) hS ?_; simp only [Act.put, List.setIfInBounds_toArray, List.set_cons_zero, List.set_cons_succ])
    | (refine wpAnyHIn_skip 19 rfl (by kernel_rfl) (by kernel_rfl) (by kernel_rfl) (by decide +kernel) (fun _ _ _ h => h) (fun _ _ _ => trivial) (by rfl) hS ?_; simp only [Act.put, List.setIfInBounds_toArray, List.set_cons_zero, List.set_cons_succ])
    | (refine wpAnyHIn_skip 20 rfl (by kernel_rfl) (by kernel_rfl) (by kernel_rfl) (by decide +kernel) (fun _ _ _ h => h) (fun _ _ _ => trivial) (by rfl) hS ?_; simp only [Act.put, List.setIfInBounds_toArray, List.set_cons_zero, List.set_cons_succ])
    | (refine wpAnyHIn_skip 21 rfl (by kernel_rfl) (by kernel_rfl) (by kernel_rfl) (by decide +kernel) (fun _ _ _ h => h) (fun _ _ _ => trivial) (by rfl) hS ?_; simp only [Act.put, List.setIfInBounds_toArray, List.set_cons_zero, List.set_cons_succ])
    | (refine wpAnyHIn_skip 22 rfl (by kernel_rfl) (by kernel_rfl) (by kernel_rfl) (by decide +kernel) (fun _ _ _ h => h) (fun _ _ _ => trivial) (by rfl) hS ?_; simp only [Act.put, List.setIfInBounds_toArray, List.set_cons_zero, List.set_cons_succ])
    | (refine wpAnyHIn_skip 23 rfl (by kernel_rfl) (by kernel_rfl) (by kernel_rfl) (by decide +kernel) (fun _ _ _ h => h) (fun _ _ _ => trivial) (by rfl) hS ?_; simp only [Act.put, List.setIfInBounds_toArray, List.set_cons_zero, List.set_cons_succ]))
  iterate 2 (first
    | (refine wpAnyHIn_take 24 (v := ?_) rfl (by kernel_rfl) (by kernel_rfl) (by kernel_rfl) (by decide +kernel) (fun _ _ _ h => h) (fun _ _ _ => trivial) (by rfl) (fun w' hSw => ?_) hS ?_; rotate_left 1; (focus (skip; go_simp; try with_reducible rfl)); simp only [Act.put, List.setIfInBounds_toArray, List.set_cons_zero, List.set_cons_succ])
    | (refine wpAnyHIn_take 25 (v := ?_) rfl (by kernel_rfl) (by kernel_rfl) (by kernel_rfl) (by decide +kernel) (fun _ _ _ h => h) (fun _ _ _ => trivial) (by rfl) (fun w' hSw => ?_) hS ?_; rotate_left 1; (focus (skip; go_simp; try with_reducible rfl)); simp only [Act.put, List.setIfInBounds_toArray, List.set_cons_zero, List.set_cons_succ]))
  iterate 11 (first
    | (refine wpAnyHIn_skip 26 rfl (by kernel_rfl) (by kernel_rfl) (by kernel_rfl) (by decide +kernel) (fun _ _ _ h => h) (fun _ _ _ => trivial) (by rfl) hS ?_; simp only [Act.put, List.setIfInBounds_toArray, List.set_cons_zero, List.set_cons_succ])
    | (refine wpAnyHIn_skip 27 rfl (by kernel_rfl) (by kernel_rfl) (by kernel_rfl) (by decide +kernel) (fun _ _ _ h => h) (fun _ _ _ => trivial) (by rfl) hS ?_; simp only [Act.put, List.setIfInBounds_toArray, List.set_cons_zero, List.set_cons_succ])
    | (refine wpAnyHIn_skip 28 rfl (by kernel_rfl) (by kernel_rfl) (by kernel_rfl) (by decide +kernel) (fun _ _ _ h => h) (fun _ _ _ => trivial) (by rfl) hS ?_; simp only [Act.put, List.setIfInBounds_toArray, List.set_cons_zero, List.set_cons_succ])
    | (refine wpAnyHIn_skip 29 rfl (by kernel_rfl) (by kernel_rfl) (by kernel_rfl) (by decide +kernel) (fun _ _ _ h => h) (fun _ _ _ => trivial) (by rfl) hS ?_; simp only [Act.put, List.setIfInBounds_toArray, List.set_cons_zero, List.set_cons_succ])
    | (refine wpAnyHIn_skip 30 rfl (by kernel_rfl) (by kernel_rfl) (by kernel_rfl) (by decide +kernel) (fun _ _ _ h => h) (fun _ _ _ => trivial) (by rfl) hS ?_; simp only [Act.put, List.setIfInBounds_toArray, List.set_cons_zero, List.set_cons_succ])
    | (refine wpAnyHIn_skip 31 rfl (by kernel_rfl) (by kernel_rfl) (by kernel_rfl) (by decide +kernel) (fun _ _ _ h => h) (fun _ _ _ => trivial) (by rfl) hS ?_; simp only [Act.put, List.setIfInBounds_toArray, List.set_cons_zero, List.set_cons_succ])
    | (refine wpAnyHIn_skip 32 rfl (by kernel_rfl) (by kernel_rfl) (by kernel_rfl) (by decide +kernel) (fun _ _ _ h => h) (fun _ _ _ => trivial) (by rfl) hS ?_; simp only [Act.put, List.setIfInBounds_toArray, List.set_cons_zero, List.set_cons_succ])
    | (refine wpAnyHIn_skip 33 rfl (by kernel_rfl) (by kernel_rfl) (by kernel_rfl) (by decide +kernel) (fun _ _ _ h => h) (fun _ _ _ => trivial) (by rfl) hS ?_; simp only [Act.put, List.setIfInBounds_toArray, List.set_cons_zero, List.set_cons_succ])
    | (refine wpAnyHIn_skip 34 rfl (by kernel_rfl) (by kernel_rfl) (by kernel_rfl) (by decide +kernel) (fun _ _ _ h => h) (fun _ _ _ => trivial) (by rfl) hS ?_; simp only [Act.put, List.setIfInBounds_toArray, List.set_cons_zero, List.set_cons_succ])
    | (refine wpAnyHIn_skip 35 rfl (by kernel_rfl) (by kernel_rfl) (by kernel_rfl) (by decide +kernel) (fun _ _ _ h => h) (fun _ _ _ => trivial) (by rfl) hS ?_; simp only [Act.put, List.setIfInBounds_toArray, List.set_cons_zero, List.set_cons_succ])
    | (refine wpAnyHIn_skip 36 rfl (by kernel_rfl) (by kernel_rfl) (by kernel_rfl) (by decide +kernel) (fun _ _ _ h => h) (fun _ _ _ => trivial) (by rfl) hS ?_; simp only [Act.put, List.setIfInBounds_toArray, List.set_cons_zero, List.set_cons_succ]))
  iterate 1 (first
    | (refine wpAnyHIn_take 37 (v := ?_) rfl (by kernel_rfl) (by kernel_rfl) (by kernel_rfl) (by decide +kernel) (fun _ _ _ h => h) (fun _ _ _ => trivial) (by rfl) (fun w' hSw => ?_) hS ?_; rotate_left 1; (focus (skip; go_simp; try with_reducible rfl)); simp only [Act.put, List.setIfInBounds_toArray, List.set_cons_zero, List.set_cons_succ]))
  refine wpAnyHIn_done (by kernel_rfl) ?_ _
  go_upto_region 13 with fail
  have j1 : IntKind.i64.wrap ((m : Int) - 1) = (m : Int) - 1 := IntWalk.i64_in _ (by omega)
  have j2 : IntKind.i64.wrap ((m : Int) - 2) = (m : Int) - 2 := IntWalk.i64_in _ (by omega)
  have j3 : IntKind.i64.wrap ((m' : Int) - 1) = (m' : Int) - 1 := IntWalk.i64_in _ (by omega)
  have j4 : IntKind.i64.wrap ((m' : Int) - 2) = (m' : Int) - 2 := IntWalk.i64_in _ (by omega)
  have t1 : ((m : Int) - 1).toNat = m - 1 := by omega
  have t2 : ((m : Int) - 2).toNat = m - 2 := by omega
  have t3 : ((m' : Int) - 1).toNat = m' - 1 := by omega
  have t4 : ((m' : Int) - 2).toNat = m' - 2 := by omega
  have r1 : (1 : Int) ≤ (m : Int) - 1 := by omega
  have r2 : (m : Int) - 1 ≤ (c1 : Int) := by omega
  have r3 : (1 : Int) ≤ (m' : Int) - 1 := by omega
  have r4 : (m' : Int) - 1 ≤ (c2 : Int) := by omega
  have r5 : (0 : Int) ≤ (m : Int) - 1 := by omega
  have r6 : (m : Int) - 1 < (m : Int) := by omega
  have r7 : (0 : Int) ≤ (m' : Int) - 1 := by omega
  have r8 : (m' : Int) - 1 < (m' : Int) := by omega
  have r9 : (0 : Int) ≤ (m : Int) - 2 := by omega
  have r10 : (m : Int) - 2 < (m : Int) := by omega
  have r11 : (0 : Int) ≤ (m' : Int) - 2 := by omega
  have r12 : (m' : Int) - 2 < (m' : Int) := by omega
  have r13 : (1 : Int) < (m : Int) := by omega
  have r14 : (1 : Int) < (m' : Int) := by omega
  have r15 : (0 : Int) < (m : Int) := by omega
  have r16 : (0 : Int) < (m' : Int) := by omega
  have r17 : 0 < m := by omega
  have r18 : 0 < m' := by omega
  have r19 : 1 < m := by omega
  have r20 : 1 < m' := by omega
  have r21 : 1 ≤ m - 1 := by omega
  have r22 : 1 ≤ m' - 1 := by omega
  have r23 : m - 1 ≤ c1 := by omega
  have r24 : m' - 1 ≤ c2 := by omega
  have r25 : (2 : Int) ≤ (m : Int) := by omega
  have r26 : (2 : Int) ≤ (m' : Int) := by omega
  have r27 : (1 : Int) ≤ (m : Int) := by omega
  have r28 : (1 : Int) ≤ (m' : Int) := by omega
  have hW : Gr w9 w9.drew.drew := (Gr.refl w9).drew.drew
  have z0 : w9.cell? ⟨ba, oa, none⟩ = some (.int .i64 (f 0)) := by have := (CA.out 0 (by omega)).1; simpa using this
  have z1 : w9.cell? ⟨ba, oa + 1, none⟩ = some (.int .i64 (g 0)) := by have := (CA.out 0 (by omega)).2; simpa using this
  have z2 : w9.cell? ⟨ba, oa + 2, none⟩ = some (.int .i64 (f 1)) := (CA.out 1 (by omega)).1
  have z3 : w9.cell? ⟨ba, oa + 2 + 1, none⟩ = some (.int .i64 (g 1)) := (CA.out 1 (by omega)).2
  have z4 := (CA.out (m - 2) (by omega)).1
  have z5 := (CA.out (m - 2) (by omega)).2
  have z6 := (CA.out (m - 1) (by omega)).1
  have z7 := (CA.out (m - 1) (by omega)).2
  have y0 : w9.cell? ⟨bb, ob, none⟩ = some (.int .i64 (f' 0)) := by have := (CB.out 0 (by omega)).1; simpa using this
  have y1 : w9.cell? ⟨bb, ob + 1, none⟩ = some (.int .i64 (g' 0)) := by have := (CB.out 0 (by omega)).2; simpa using this
  have y2 : w9.cell? ⟨bb, ob + 2, none⟩ = some (.int .i64 (f' 1)) := (CB.out 1 (by omega)).1
  have y3 : w9.cell? ⟨bb, ob + 2 + 1, none⟩ = some (.int .i64 (g' 1)) := (CB.out 1 (by omega)).2
  have y4 := (CB.out (m' - 2) (by omega)).1
  have y5 := (CB.out (m' - 2) (by omega)).2
  have y6 := (CB.out (m' - 1) (by omega)).1
  have y7 := (CB.out (m' - 1) (by omega)).2
  have EQ : ∀ v, eqM (m - 2) (m' - 2) (fun i => f (i + 1)) (fun i => g (i + 1)) (fun i => f' (i + 1)) (fun i => g' (i + 1)) = v → ∀ w', Gr w9 w' → Calls Try.prog 40 #[.slice (if c1 = 1 then some ⟨ba, oa, none⟩ else some ⟨ba, oa + 2, none⟩) (m - 1 - 1) (c1 - 1), .slice (if c2 = 1 then some ⟨bb, ob, none⟩ else some ⟨bb, ob + 2, none⟩) (m' - 1 - 1) (c2 - 1)] w' (RetDB v w') := fun v hv w' hw' => by
    rw [if_neg (by omega), if_neg (by omega), show m - 1 - 1 = m - 2 by omega, show m' - 1 - 1 = m' - 2 by omega, ← hv]
    exact Equal_q _ _ _ _ _ _ _ _ _ _ w' (by omega) (by omega) (RdM.tail (fun i hi => ⟨hw'.cell (CA.out i hi).1, hw'.cell (CA.out i hi).2⟩) _ rfl) (RdM.tail (fun i hi => ⟨hw'.cell (CB.out i hi).1, hw'.cell (CB.out i hi).2⟩) _ rfl)
  have kA := fun i (hi : i < m) => KB.out i hi
  have kB := fun i (hi : i < m') => KB'.out i hi
  have C1 : ∀ v, slB (f 0) (g 0) (f 1) (g 1) (f' 0) (g' 0) (f' 1) (g' 1) = v → ∀ w', Calls Try.prog 56 #[.agg #[.int .i64 (f 0), .int .i64 (g 0)], .agg #[.int .i64 (f 1), .int .i64 (g 1)], .agg #[.int .i64 (f' 0), .int .i64 (g' 0)], .agg #[.int .i64 (f' 1), .int .i64 (g' 1)]] w' (RetB v w') := fun v hv w' => by
    have a0 := kA 0 (by omega)
    have a1 := kA 1 (by omega)
    have a2 := kB 0 (by omega)
    have a3 := kB 1 (by omega)
    rw [← hv]
    exact sameLine_any _ _ _ _ _ _ _ _ w' (by omega) (by omega) (by omega) (by omega) (by omega) (by omega) (by omega) (by omega)
  have C2 : ∀ v, slB (f (m - 2)) (g (m - 2)) (f (m - 1)) (g (m - 1)) (f' (m' - 2)) (g' (m' - 2)) (f' (m' - 1)) (g' (m' - 1)) = v → ∀ w', Calls Try.prog 56 #[.agg #[.int .i64 (f (m - 2)), .int .i64 (g (m - 2))], .agg #[.int .i64 (f (m - 1)), .int .i64 (g (m - 1))], .agg #[.int .i64 (f' (m' - 2)), .int .i64 (g' (m' - 2))], .agg #[.int .i64 (f' (m' - 1)), .int .i64 (g' (m' - 1))]] w' (RetB v w') := fun v hv w' => by
    have a0 := kA (m - 2) (by omega)
    have a1 := kA (m - 1) (by omega)
    have a2 := kB (m' - 2) (by omega)
    have a3 := kB (m' - 1) (by omega)
    rw [← hv]
    exact sameLine_any _ _ _ _ _ _ _ _ w' (by omega) (by omega) (by omega) (by omega) (by omega) (by omega) (by omega) (by omega)
  replace EQ := Lib.hid EQ
  replace C1 := Lib.hid C1
  replace C2 := Lib.hid C2
  clear kA kB hW
  refine (wpIn_wide (n := 3)).1 ?_
  refine wpIn_region_held (fun w' => Gr w9 w') 48 (by kernel_rfl) rfl rfl ?_
  replace hS := Gr.drew hS
  iterate 8 (first
    | (refine wpAnyHIn_take 0 (v := ?_) rfl (by kernel_rfl) (by kernel_rfl) (by kernel_rfl) (by decide +kernel) (fun _ _ _ h => h) (fun _ _ _ => trivial) (by rfl) (fun w' hSw => ?_) hS ?_; rotate_left 1; (focus (skip; go_simp; try with_reducible rfl)); simp only [Act.put, List.setIfInBounds_toArray, List.set_cons_zero, List.set_cons_succ])
    | (refine wpAnyHIn_take 1 (v := ?_) rfl (by kernel_rfl) (by kernel_rfl) (by kernel_rfl) (by decide +kernel) (fun _ _ _ h => h) (fun _ _ _ => trivial) (by rfl) (fun w' hSw => ?_) hS ?_; rotate_left 1; (focus (skip; go_simp; try with_reducible rfl)); simp only [Act.put, List.setIfInBounds_toArray, List.set_cons_zero, List.set_cons_succ])
    | (refine wpAnyHIn_take 2 (v := ?_) rfl (by kernel_rfl) (by kernel_rfl) (by kernel_rfl) (by decide +kernel) (fun _ _ _ h => h) (fun _ _ _ => trivial) (by rfl) (fun w' hSw => ?_) hS ?_; rotate_left 1; (focus (skip; go_simp; try with_reducible rfl)); simp only [Act.put, List.setIfInBounds_toArray, List.set_cons_zero, List.set_cons_succ])
    | (refine wpAnyHIn_take 3 (v := ?_) rfl (by kernel_rfl) (by kernel_rfl) (by kernel_rfl) (by decide +kernel) (fun _ _ _ h => h) (fun _ _ _ => trivial) (by rfl) (fun w' hSw => ?_) hS ?_; rotate_left 1; (focus (skip; go_simp; try with_reducible rfl)); simp only [Act.put, List.setIfInBounds_toArray, List.set_cons_zero, List.set_cons_succ])
    | (refine wpAnyHIn_take 4 (v := ?_) rfl (by kernel_rfl) (by kernel_rfl) (by kernel_rfl) (by decide +kernel) (fun _ _ _ h => h) (fun _ _ _ => trivial) (by rfl) (fun w' hSw => ?_) hS ?_; rotate_left 1; (focus (skip; go_simp; try with_reducible rfl)); simp only [Act.put, List.setIfInBounds_toArray, List.set_cons_zero, List.set_cons_succ])
    | (refine wpAnyHIn_take 5 (v := ?_) rfl (by kernel_rfl) (by kernel_rfl) (by kernel_rfl) (by decide +kernel) (fun _ _ _ h => h) (fun _ _ _ => trivial) (by rfl) (fun w' hSw => ?_) hS ?_; rotate_left 1; (focus (skip; go_simp; try with_reducible rfl)); simp only [Act.put, List.setIfInBounds_toArray, List.set_cons_zero, List.set_cons_succ])
    | (refine wpAnyHIn_take 6 (v := ?_) rfl (by kernel_rfl) (by kernel_rfl) (by kernel_rfl) (by decide +kernel) (fun _ _ _ h => h) (fun _ _ _ => trivial) (by rfl) (fun w' hSw => ?_) hS ?_; rotate_left 1; (focus (skip; go_simp; try with_reducible rfl)); simp only [Act.put, List.setIfInBounds_toArray, List.set_cons_zero, List.set_cons_succ])
    | (refine wpAnyHIn_take 7 (v := ?_) rfl (by kernel_rfl) (by kernel_rfl) (by kernel_rfl) (by decide +kernel) (fun _ _ _ h => h) (fun _ _ _ => trivial) (by rfl) (fun w' hSw => ?_) hS ?_; rotate_left 1; (focus (skip; go_simp; try with_reducible rfl)); simp only [Act.put, List.setIfInBounds_toArray, List.set_cons_zero, List.set_cons_succ]))
  refine wpAnyHIn_ready [8] (by kernel_rfl) (by simp) ?_
  refine AllHIn.cons rfl (by rfl) (fun K hK => ?_) AllHIn.nil
  go_simp
  refine ⟨trivial, ?_⟩
  refine (callsIn_wide.2 (EQ.out true h1 _ hS)).mono ?_
  rintro e wX ⟨rfl, dm, rfl⟩
  replace hS : Gr w9 _ := hS.trans ((Gr.refl _).drewN dm)
  refine hK.out _ _ hS ?_
  clear hK K
  generalize World.drewN _ dm = wx at *
  iterate 1 (first
    | (refine wpAnyHIn_take 9 (v := ?_) rfl (by kernel_rfl) (by kernel_rfl) (by kernel_rfl) (by decide +kernel) (fun _ _ _ h => h) (fun _ _ _ => trivial) (by rfl) (fun w' hSw => ?_) hS ?_; rotate_left 1; (focus (skip; go_simp; try with_reducible rfl)); simp only [Act.put, List.setIfInBounds_toArray, List.set_cons_zero, List.set_cons_succ]))
  iterate 12 (first
    | (refine wpAnyHIn_take 10 (v := ?_) rfl (by kernel_rfl) (by kernel_rfl) (by kernel_rfl) (by decide +kernel) (fun _ _ _ h => h) (fun _ _ _ => trivial) (by rfl) (fun w' hSw => ?_) hS ?_; rotate_left 1; (focus (have u0 := hSw.cell z0; have v0 := hSw.cell y0; have u1 := hSw.cell z1; have v1 := hSw.cell y1; have u2 := hSw.cell z2; have v2 := hSw.cell y2; have u3 := hSw.cell z3; have v3 := hSw.cell y3; go_simp; try with_reducible rfl)); simp only [Act.put, List.setIfInBounds_toArray, List.set_cons_zero, List.set_cons_succ])
    | (refine wpAnyHIn_take 11 (v := ?_) rfl (by kernel_rfl) (by kernel_rfl) (by kernel_rfl) (by decide +kernel) (fun _ _ _ h => h) (fun _ _ _ => trivial) (by rfl) (fun w' hSw => ?_) hS ?_; rotate_left 1; (focus (have u0 := hSw.cell z0; have v0 := hSw.cell y0; have u1 := hSw.cell z1; have v1 := hSw.cell y1; have u2 := hSw.cell z2; have v2 := hSw.cell y2; have u3 := hSw.cell z3; have v3 := hSw.cell y3; go_simp; try with_reducible rfl)); simp only [Act.put, List.setIfInBounds_toArray, List.set_cons_zero, List.set_cons_succ])
    | (refine wpAnyHIn_take 12 (v := ?_) rfl (by kernel_rfl) (by kernel_rfl) (by kernel_rfl) (by decide +kernel) (fun _ _ _ h => h) (fun _ _ _ => trivial) (by rfl) (fun w' hSw => ?_) hS ?_; rotate_left 1; (focus (have u0 := hSw.cell z0; have v0 := hSw.cell y0; have u1 := hSw.cell z1; have v1 := hSw.cell y1; have u2 := hSw.cell z2; have v2 := hSw.cell y2; have u3 := hSw.cell z3; have v3 := hSw.cell y3; go_simp; try with_reducible rfl)); simp only [Act.put, List.setIfInBounds_toArray, List.set_cons_zero, List.set_cons_succ])
    | (refine wpAnyHIn_take 13 (v := ?_) rfl (by kernel_rfl) (by kernel_rfl) (by kernel_rfl) (by decide +kernel) (fun _ _ _ h => h) (fun _ _ _ => trivial) (by rfl) (fun w' hSw => ?_) hS ?_; rotate_left 1; (focus (have u0 := hSw.cell z0; have v0 := hSw.cell y0; have u1 := hSw.cell z1; have v1 := hSw.cell y1; have u2 := hSw.cell z2; have v2 := hSw.cell y2; have u3 := hSw.cell z3; have v3 := hSw.cell y3; go_simp; try with_reducible rfl)); simp only [Act.put, List.setIfInBounds_toArray, List.set_cons_zero, List.set_cons_succ])
    | (refine wpAnyHIn_take 14 (v := ?_) rfl (by kernel_rfl) (by kernel_rfl) (by kernel_rfl) (by decide +kernel) (fun _ _ _ h => h) (fun _ _ _ => trivial) (by rfl) (fun w' hSw => ?_) hS ?_; rotate_left 1; (focus (have u0 := hSw.cell z0; have v0 := hSw.cell y0; have u1 := hSw.cell z1; have v1 := hSw.cell y1; have u2 := hSw.cell z2; have v2 := hSw.cell y2; have u3 := hSw.cell z3; have v3 := hSw.cell y3; go_simp; try with_reducible rfl)); simp only [Act.put, List.setIfInBounds_toArray, List.set_cons_zero, List.set_cons_succ])
    | (refine wpAnyHIn_take 15 (v := ?_) rfl (by kernel_rfl) (by kernel_rfl) (by kernel_rfl) (by decide +kernel) (fun _ _ _ h => h) (fun _ _ _ => trivial) (by rfl) (fun w' hSw => ?_) hS ?_; rotate_left 1; (focus (have u0 := hSw.cell z0; have v0 := hSw.cell y0; have u1 := hSw.cell z1; have v1 := hSw.cell y1; have u2 := hSw.cell z2; have v2 := hSw.cell y2; have u3 := hSw.cell z3; have v3 := hSw.cell y3; go_simp; try with_reducible rfl)); simp only [Act.put, List.setIfInBounds_toArray, List.set_cons_zero, List.set_cons_succ])
    | (refine wpAnyHIn_take 16 (v := ?_) rfl (by kernel_rfl) (by kernel_rfl) (by kernel_rfl) (by decide +kernel) (fun _ _ _ h => h) (fun _ _ _ => trivial) (by rfl) (fun w' hSw => ?_) hS ?_; rotate_left 1; (focus (have u0 := hSw.cell z0; have v0 := hSw.cell y0; have u1 := hSw.cell z1; have v1 := hSw.cell y1; have u2 := hSw.cell z2; have v2 := hSw.cell y2; have u3 := hSw.cell z3; have v3 := hSw.cell y3; go_simp; try with_reducible rfl)); simp only [Act.put, List.setIfInBounds_toArray, List.set_cons_zero, List.set_cons_succ])
    | (refine wpAnyHIn_take 17 (v := ?_) rfl (by kernel_rfl) (by kernel_rfl) (by kernel_rfl) (by decide +kernel) (fun _ _ _ h => h) (fun _ _ _ => trivial) (by rfl) (fun w' hSw => ?_) hS ?_; rotate_left 1; (focus (have u0 := hSw.cell z0; have v0 := hSw.cell y0; have u1 := hSw.cell z1; have v1 := hSw.cell y1; have u2 := hSw.cell z2; have v2 := hSw.cell y2; have u3 := hSw.cell z3; have v3 := hSw.cell y3; go_simp; try with_reducible rfl)); simp only [Act.put, List.setIfInBounds_toArray, List.set_cons_zero, List.set_cons_succ])
    | (refine wpAnyHIn_take 18 (v := ?_) rfl (by kernel_rfl) (by kernel_rfl) (by kernel_rfl) (by decide +kernel) (fun _ _ _ h => h) (fun _ _ _ => trivial) (by rfl) (fun w' hSw => ?_) hS ?_; rotate_left 1; (focus (have u0 := hSw.cell z0; have v0 := hSw.cell y0; have u1 := hSw.cell z1; have v1 := hSw.cell y1; have u2 := hSw.cell z2; have v2 := hSw.cell y2; have u3 := hSw.cell z3; have v3 := hSw.cell y3; go_simp; try with_reducible rfl)); simp only [Act.put, List.setIfInBounds_toArray, List.set_cons_zero, List.set_cons_succ])
    | (refine wpAnyHIn_take 19 (v := ?_) rfl (by kernel_rfl) (by kernel_rfl) (by kernel_rfl) (by decide +kernel) (fun _ _ _ h => h) (fun _ _ _ => trivial) (by rfl) (fun w' hSw => ?_) hS ?_; rotate_left 1; (focus (have u0 := hSw.cell z0; have v0 := hSw.cell y0; have u1 := hSw.cell z1; have v1 := hSw.cell y1; have u2 := hSw.cell z2; have v2 := hSw.cell y2; have u3 := hSw.cell z3; have v3 := hSw.cell y3; go_simp; try with_reducible rfl)); simp only [Act.put, List.setIfInBounds_toArray, List.set_cons_zero, List.set_cons_succ])
    | (refine wpAnyHIn_take 20 (v := ?_) rfl (by kernel_rfl) (by kernel_rfl) (by kernel_rfl) (by decide +kernel) (fun _ _ _ h => h) (fun _ _ _ => trivial) (by rfl) (fun w' hSw => ?_) hS ?_; rotate_left 1; (focus (have u0 := hSw.cell z0; have v0 := hSw.cell y0; have u1 := hSw.cell z1; have v1 := hSw.cell y1; have u2 := hSw.cell z2; have v2 := hSw.cell y2; have u3 := hSw.cell z3; have v3 := hSw.cell y3; go_simp; try with_reducible rfl)); simp only [Act.put, List.setIfInBounds_toArray, List.set_cons_zero, List.set_cons_succ])
    | (refine wpAnyHIn_take 21 (v := ?_) rfl (by kernel_rfl) (by kernel_rfl) (by kernel_rfl) (by decide +kernel) (fun _ _ _ h => h) (fun _ _ _ => trivial) (by rfl) (fun w' hSw => ?_) hS ?_; rotate_left 1; (focus (have u0 := hSw.cell z0; have v0 := hSw.cell y0; have u1 := hSw.cell z1; have v1 := hSw.cell y1; have u2 := hSw.cell z2; have v2 := hSw.cell y2; have u3 := hSw.cell z3; have v3 := hSw.cell y3; go_simp; try with_reducible rfl)); simp only [Act.put, List.setIfInBounds_toArray, List.set_cons_zero, List.set_cons_succ]))
  refine wpAnyHIn_ready [22] (by kernel_rfl) (by simp) ?_
  refine AllHIn.cons rfl (by rfl) (fun K hK => ?_) AllHIn.nil
  go_simp
  refine ⟨trivial, ?_⟩
  refine (callsIn_wide.2 (C1.out true h2 _)).mono ?_
  rintro e wY ⟨rfl, gX⟩
  replace hS : Gr w9 wY := hS.trans gX
  refine hK.out _ _ hS ?_
  clear hK K gX
  iterate 2 (first
    | (refine wpAnyHIn_take 23 (v := ?_) rfl (by kernel_rfl) (by kernel_rfl) (by kernel_rfl) (by decide +kernel) (fun _ _ _ h => h) (fun _ _ _ => trivial) (by rfl) (fun w' hSw => ?_) hS ?_; rotate_left 1; (focus (skip; go_simp; try with_reducible rfl)); simp only [Act.put, List.setIfInBounds_toArray, List.set_cons_zero, List.set_cons_succ])
    | (refine wpAnyHIn_take 24 (v := ?_) rfl (by kernel_rfl) (by kernel_rfl) (by kernel_rfl) (by decide +kernel) (fun _ _ _ h => h) (fun _ _ _ => trivial) (by rfl) (fun w' hSw => ?_) hS ?_; rotate_left 1; (focus (skip; go_simp; try with_reducible rfl)); simp only [Act.put, List.setIfInBounds_toArray, List.set_cons_zero, List.set_cons_succ]))
  iterate 20 (first
    | (refine wpAnyHIn_take 25 (v := ?_) rfl (by kernel_rfl) (by kernel_rfl) (by kernel_rfl) (by decide +kernel) (fun _ _ _ h => h) (fun _ _ _ => trivial) (by rfl) (fun w' hSw => ?_) hS ?_; rotate_left 1; (focus (have u4 := hSw.cell z4; have v4 := hSw.cell y4; have u5 := hSw.cell z5; have v5 := hSw.cell y5; have u6 := hSw.cell z6; have v6 := hSw.cell y6; have u7 := hSw.cell z7; have v7 := hSw.cell y7; go_simp; try with_reducible rfl)); simp only [Act.put, List.setIfInBounds_toArray, List.set_cons_zero, List.set_cons_succ])
    | (refine wpAnyHIn_take 26 (v := ?_) rfl (by kernel_rfl) (by kernel_rfl) (by kernel_rfl) (by decide +kernel) (fun _ _ _ h => h) (fun _ _ _ => trivial) (by rfl) (fun w' hSw => ?_) hS ?_; rotate_left 1; (focus (have u4 := hSw.cell z4; have v4 := hSw.cell y4; have u5 := hSw.cell z5; have v5 := hSw.cell y5; have u6 := hSw.cell z6; have v6 := hSw.cell y6; have u7 := hSw.cell z7; have v7 := hSw.cell y7; go_simp; try with_reducible rfl)); simp only [Act.put, List.setIfInBounds_toArray, List.set_cons_zero, List.set_cons_succ])
    | (refine wpAnyHIn_take 27 (v := ?_) rfl (by kernel_rfl) (by kernel_rfl) (by kernel_rfl) (by decide +kernel) (fun _ _ _ h => h) (fun _ _ _ => trivial) (by rfl) (fun w' hSw => ?_) hS ?_; rotate_left 1; (focus (have u4 := hSw.cell z4; have v4 := hSw.cell y4; have u5 := hSw.cell z5; have v5 := hSw.cell y5; have u6 := hSw.cell z6; have v6 := hSw.cell y6; have u7 := hSw.cell z7; have v7 := hSw.cell y7; go_simp; try with_reducible rfl)); simp only [Act.put, List.setIfInBounds_toArray, List.set_cons_zero, List.set_cons_succ])
    | (refine wpAnyHIn_take 28 (v := ?_) rfl (by kernel_rfl) (by kernel_rfl) (by kernel_rfl) (by decide +kernel) (fun _ _ _ h => h) (fun _ _ _ => trivial) (by rfl) (fun w' hSw => ?_) hS ?_; rotate_left 1; (focus (have u4 := hSw.cell z4; have v4 := hSw.cell y4; have u5 := hSw.cell z5; have v5 := hSw.cell y5; have u6 := hSw.cell z6; have v6 := hSw.cell y6; have u7 := hSw.cell z7; have v7 := hSw.cell y7; go_simp; try with_reducible rfl)); simp only [Act.put, List.setIfInBounds_toArray, List.set_cons_zero, List.set_cons_succ])
    | (refine wpAnyHIn_take 29 (v := ?_) rfl (by kernel_rfl) (by kernel_rfl) (by kernel_rfl) (by decide +kernel) (fun _ _ _ h => h) (fun _ _ _ => trivial) (by rfl) (fun w' hSw => ?_) hS ?_; rotate_left 1; (focus (have u4 := hSw.cell z4; have v4 := hSw.cell y4; have u5 := hSw.cell z5; have v5 := hSw.cell y5; have u6 := hSw.cell z6; have v6 := hSw.cell y6; have u7 := hSw.cell z7; have v7 := hSw.cell y7; go_simp; try with_reducible rfl)); simp only [Act.put, List.setIfInBounds_toArray, List.set_cons_zero, List.set_cons_succ])
    | (refine wpAnyHIn_take 30 (v := ?_) rfl (by kernel_rfl) (by kernel_rfl) (by kernel_rfl) (by decide +kernel) (fun _ _ _ h => h) (fun _ _ _ => trivial) (by rfl) (fun w' hSw => ?_) hS ?_; rotate_left 1; (focus (have u4 := hSw.cell z4; have v4 := hSw.cell y4; have u5 := hSw.cell z5; have v5 := hSw.cell y5; have u6 := hSw.cell z6; have v6 := hSw.cell y6; have u7 := hSw.cell z7; have v7 := hSw.cell y7; go_simp; try with_reducible rfl)); simp only [Act.put, List.setIfInBounds_toArray, List.set_cons_zero, List.set_cons_succ])
    | (refine wpAnyHIn_take 31 (v := ?_) rfl (by kernel_rfl) (by kernel_rfl) (by kernel_rfl) (by decide +kernel) (fun _ _ _ h => h) (fun _ _ _ => trivial) (by rfl) (fun w' hSw => ?_) hS ?_; rotate_left 1; (focus (have u4 := hSw.cell z4; have v4 := hSw.cell y4; have u5 := hSw.cell z5; have v5 := hSw.cell y5; have u6 := hSw.cell z6; have v6 := hSw.cell y6; have u7 := hSw.cell z7; have v7 := hSw.cell y7; go_simp; try with_reducible rfl)); simp only [Act.put, List.setIfInBounds_toArray, List.set_cons_zero, List.set_cons_succ])
    | (refine wpAnyHIn_take 32 (v := ?_) rfl (by kernel_rfl) (by kernel_rfl) (by kernel_rfl) (by decide +kernel) (fun _ _ _ h => h) (fun _ _ _ => trivial) (by rfl) (fun w' hSw => ?_) hS ?_; rotate_left 1; (focus (have u4 := hSw.cell z4; have v4 := hSw.cell y4; have u5 := hSw.cell z5; have v5 := hSw.cell y5; have u6 := hSw.cell z6; have v6 := hSw.cell y6; have u7 := hSw.cell z7; have v7 := hSw.cell y7; go_simp; try with_reducible rfl)); simp only [Act.put, List.setIfInBounds_toArray, List.set_cons_zero, List.set_cons_succ])
    | (refine wpAnyHIn_take 33 (v := ?_) rfl (by kernel_rfl) (by kernel_rfl) (by kernel_rfl) (by decide +kernel) (fun _ _ _ h => h) (fun _ _ _ => trivial) (by rfl) (fun w' hSw => ?_) hS ?_; rotate_left 1; (focus (have u4 := hSw.cell z4; have v4 := hSw.cell y4; have u5 := hSw.cell z5; have v5 := hSw.cell y5; have u6 := hSw.cell z6; have v6 := hSw.cell y6; have u7 := hSw.cell z7; have v7 := hSw.cell y7; go_simp; try with_reducible rfl)); simp only [Act.put, List.setIfInBounds_toArray, List.set_cons_zero, List.set_cons_succ])
    | (refine wpAnyHIn_take 34 (v := ?_) rfl (by kernel_rfl) (by kernel_rfl) (by kernel_rfl) (by decide +kernel) (fun _ _ _ h => h) (fun _ _ _ => trivial) (by rfl) (fun w' hSw => ?_) hS ?_; rotate_left 1; (focus (have u4 := hSw.cell z4; have v4 := hSw.cell y4; have u5 := hSw.cell z5; have v5 := hSw.cell y5; have u6 := hSw.cell z6; have v6 := hSw.cell y6; have u7 := hSw.cell z7; have v7 := hSw.cell y7; go_simp; try with_reducible rfl)); simp only [Act.put, List.setIfInBounds_toArray, List.set_cons_zero, List.set_cons_succ])
    | (refine wpAnyHIn_take 35 (v := ?_) rfl (by kernel_rfl) (by kernel_rfl) (by kernel_rfl) (by decide +kernel) (fun _ _ _ h => h) (fun _ _ _ => trivial) (by rfl) (fun w' hSw => ?_) hS ?_; rotate_left 1; (focus (have u4 := hSw.cell z4; have v4 := hSw.cell y4; have u5 := hSw.cell z5; have v5 := hSw.cell y5; have u6 := hSw.cell z6; have v6 := hSw.cell y6; have u7 := hSw.cell z7; have v7 := hSw.cell y7; go_simp; try with_reducible rfl)); simp only [Act.put, List.setIfInBounds_toArray, List.set_cons_zero, List.set_cons_succ])
    | (refine wpAnyHIn_take 36 (v := ?_) rfl (by kernel_rfl) (by kernel_rfl) (by kernel_rfl) (by decide +kernel) (fun _ _ _ h => h) (fun _ _ _ => trivial) (by rfl) (fun w' hSw => ?_) hS ?_; rotate_left 1; (focus (have u4 := hSw.cell z4; have v4 := hSw.cell y4; have u5 := hSw.cell z5; have v5 := hSw.cell y5; have u6 := hSw.cell z6; have v6 := hSw.cell y6; have u7 := hSw.cell z7; have v7 := hSw.cell y7; go_simp; try with_reducible rfl)); simp only [Act.put, List.setIfInBounds_toArray, List.set_cons_zero, List.set_cons_succ])
    | (refine wpAnyHIn_take 37 (v := ?_) rfl (by kernel_rfl) (by kernel_rfl) (by kernel_rfl) (by decide +kernel) (fun _ _ _ h => h) (fun _ _ _ => trivial) (by rfl) (fun w' hSw => ?_) hS ?_; rotate_left 1; (focus (have u4 := hSw.cell z4; have v4 := hSw.cell y4; have u5 := hSw.cell z5; have v5 := hSw.cell y5; have u6 := hSw.cell z6; have v6 := hSw.cell y6; have u7 := hSw.cell z7; have v7 := hSw.cell y7; go_simp; try with_reducible rfl)); simp only [Act.put, List.setIfInBounds_toArray, List.set_cons_zero, List.set_cons_succ])
    | (refine wpAnyHIn_take 38 (v := ?_) rfl (by kernel_rfl) (by kernel_rfl) (by kernel_rfl) (by decide +kernel) (fun _ _ _ h => h) (fun _ _ _ => trivial) (by rfl) (fun w' hSw => ?_) hS ?_; rotate_left 1; (focus (have u4 := hSw.cell z4; have v4 := hSw.cell y4; have u5 := hSw.cell z5; have v5 := hSw.cell y5; have u6 := hSw.cell z6; have v6 := hSw.cell y6; have u7 := hSw.cell z7; have v7 := hSw.cell y7; go_simp; try with_reducible rfl)); simp only [Act.put, List.setIfInBounds_toArray, List.set_cons_zero, List.set_cons_succ])
    | (refine wpAnyHIn_take 39 (v := ?_) rfl (by kernel_rfl) (by kernel_rfl) (by kernel_rfl) (by decide +kernel) (fun _ _ _ h => h) (fun _ _ _ => trivial) (by rfl) (fun w' hSw => ?_) hS ?_; rotate_left 1; (focus (have u4 := hSw.cell z4; have v4 := hSw.cell y4; have u5 := hSw.cell z5; have v5 := hSw.cell y5; have u6 := hSw.cell z6; have v6 := hSw.cell y6; have u7 := hSw.cell z7; have v7 := hSw.cell y7; go_simp; try with_reducible rfl)); simp only [Act.put, List.setIfInBounds_toArray, List.set_cons_zero, List.set_cons_succ])
    | (refine wpAnyHIn_take 40 (v := ?_) rfl (by kernel_rfl) (by kernel_rfl) (by kernel_rfl) (by decide +kernel) (fun _ _ _ h => h) (fun _ _ _ => trivial) (by rfl) (fun w' hSw => ?_) hS ?_; rotate_left 1; (focus (have u4 := hSw.cell z4; have v4 := hSw.cell y4; have u5 := hSw.cell z5; have v5 := hSw.cell y5; have u6 := hSw.cell z6; have v6 := hSw.cell y6; have u7 := hSw.cell z7; have v7 := hSw.cell y7; go_simp; try with_reducible rfl)); simp only [Act.put, List.setIfInBounds_toArray, List.set_cons_zero, List.set_cons_succ])
    | (refine wpAnyHIn_take 41 (v := ?_) rfl (by kernel_rfl) (by kernel_rfl) (by kernel_rfl) (by decide +kernel) (fun _ _ _ h => h) (fun _ _ _ => trivial) (by rfl) (fun w' hSw => ?_) hS ?_; rotate_left 1; (focus (have u4 := hSw.cell z4; have v4 := hSw.cell y4; have u5 := hSw.cell z5; have v5 := hSw.cell y5; have u6 := hSw.cell z6; have v6 := hSw.cell y6; have u7 := hSw.cell z7; have v7 := hSw.cell y7; go_simp; try with_reducible rfl)); simp only [Act.put, List.setIfInBounds_toArray, List.set_cons_zero, List.set_cons_succ])
    | (refine wpAnyHIn_take 42 (v := ?_) rfl (by kernel_rfl) (by kernel_rfl) (by kernel_rfl) (by decide +kernel) (fun _ _ _ h => h) (fun _ _ _ => trivial) (by rfl) (fun w' hSw => ?_) hS ?_; rotate_left 1; (focus (have u4 := hSw.cell z4; have v4 := hSw.cell y4; have u5 := hSw.cell z5; have v5 := hSw.cell y5; have u6 := hSw.cell z6; have v6 := hSw.cell y6; have u7 := hSw.cell z7; have v7 := hSw.cell y7; go_simp; try with_reducible rfl)); simp only [Act.put, List.setIfInBounds_toArray, List.set_cons_zero, List.set_cons_succ])
    | (refine wpAnyHIn_take 43 (v := ?_) rfl (by kernel_rfl) (by kernel_rfl) (by kernel_rfl) (by decide +kernel) (fun _ _ _ h => h) (fun _ _ _ => trivial) (by rfl) (fun w' hSw => ?_) hS ?_; rotate_left 1; (focus (have u4 := hSw.cell z4; have v4 := hSw.cell y4; have u5 := hSw.cell z5; have v5 := hSw.cell y5; have u6 := hSw.cell z6; have v6 := hSw.cell y6; have u7 := hSw.cell z7; have v7 := hSw.cell y7; go_simp; try with_reducible rfl)); simp only [Act.put, List.setIfInBounds_toArray, List.set_cons_zero, List.set_cons_succ])
    | (refine wpAnyHIn_take 44 (v := ?_) rfl (by kernel_rfl) (by kernel_rfl) (by kernel_rfl) (by decide +kernel) (fun _ _ _ h => h) (fun _ _ _ => trivial) (by rfl) (fun w' hSw => ?_) hS ?_; rotate_left 1; (focus (have u4 := hSw.cell z4; have v4 := hSw.cell y4; have u5 := hSw.cell z5; have v5 := hSw.cell y5; have u6 := hSw.cell z6; have v6 := hSw.cell y6; have u7 := hSw.cell z7; have v7 := hSw.cell y7; go_simp; try with_reducible rfl)); simp only [Act.put, List.setIfInBounds_toArray, List.set_cons_zero, List.set_cons_succ]))
  refine wpAnyHIn_ready [45] (by kernel_rfl) (by simp) ?_
  refine AllHIn.cons rfl (by rfl) (fun K hK => ?_) AllHIn.nil
  go_simp
  refine ⟨trivial, ?_⟩
  refine (callsIn_wide.2 (C2.out true h3 _)).mono ?_
  rintro e wZ ⟨rfl, gX⟩
  replace hS : Gr w9 wZ := hS.trans gX
  refine hK.out _ _ hS ?_
  clear hK K gX
  iterate 2 (first
    | (refine wpAnyHIn_take 46 (v := ?_) rfl (by kernel_rfl) (by kernel_rfl) (by kernel_rfl) (by decide +kernel) (fun _ _ _ h => h) (fun _ _ _ => trivial) (by rfl) (fun w' hSw => ?_) hS ?_; rotate_left 1; (focus (skip; go_simp; try with_reducible rfl)); simp only [Act.put, List.setIfInBounds_toArray, List.set_cons_zero, List.set_cons_succ])
    | (refine wpAnyHIn_take 47 (v := ?_) rfl (by kernel_rfl) (by kernel_rfl) (by kernel_rfl) (by decide +kernel) (fun _ _ _ h => h) (fun _ _ _ => trivial) (by rfl) (fun w' hSw => ?_) hS ?_; rotate_left 1; (focus (skip; go_simp; try with_reducible rfl)); simp only [Act.put, List.setIfInBounds_toArray, List.set_cons_zero, List.set_cons_succ]))
  refine wpAnyHIn_done (by kernel_rfl) ?_ _
  have GX := G.trans hS
  go_wp2_with (go_at_call 17; refine (Awake_any _).mono ?_; rintro e wa ⟨rfl, ga⟩)
  go_ret
  exact ⟨rfl, GX.trans ga⟩
end Go.Proofs.Ytdlbgelidcfmiaa.tickStraights
