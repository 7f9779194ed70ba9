/- Contracts of chapter 5: the median of the slopes, of the reference. -/
import Derived.Test.YtbhndfnfohoidaaW45
import Derived.Test.YtbhndfnfohoidaaW24
namespace Go.Proofs.Ytbhndfnfohoidaa
open Go.RowKit Go.Firn
attribute [local simp] wide_fn

theorem refSlope_none (a : Option Addr) (n c : Nat) (X Y : Nat → Int) (w : World) (hn : n ≤ 1000) (hr : RdM w a n X Y) (hv : vP n X Y = false) :
    Calls Try.prog 51 #[.slice a n c] w (fun e w' => e = .returned (.tuple #[.agg #[.int .i64 0, .int .i64 0], .int .i64 50]) ∧ Gr w w') := by
  obtain ⟨W0, hW0⟩ : ∃ W0, w.alloc (.cells #[.int .i64 0, .int .i64 0] 27) = W0 := ⟨_, rfl⟩
  have G0 := Lib.hid (show Gr w W0 by rw [← hW0]; exact (Gr.refl w).alloc _)
  have B2 := Lib.hid (show Box2 W0 w.heap.size 0 0 by rw [← hW0]; exact Box2.new rfl)
  have CV := Lib.hid (refValid_any a n c X Y W0 hn (hr.gr G0.out))
  rw [hv] at CV
  clear hv hr
  go_enter Try.func51, Try.ntmps51
  go_wp2_with (go_at_call 29; (with_reducible refine CV.out.mono ?_); rintro e w1 ⟨rfl, g1⟩; have G1 := Lib.hid (G0.out.trans g1); obtain ⟨p0, p1, p2, p3⟩ := B2.out.gr g1; clear g1)
  obtain ⟨z0, z1, _, _⟩ := (show Box2 w1 w.heap.size 0 0 from ⟨p0, p1, p2, p3⟩).put (x' := 0) (y' := 0)
  exact bodyPost_ret (v := .tuple #[.agg #[.int .i64 0, .int .i64 0], .int .i64 50]) (by simp [results, Try.results51, go_sem, z0, z1]) rfl ⟨rfl, (G1.out.setCell (by simp) _).setCell (by simp) _⟩

theorem sls_snoc (X Y : Nat → Int) (l : List (Nat × Nat)) (q : Nat × Nat) : iso (sls X Y (l ++ [q])) = ins (slp X Y q) (iso (sls X Y l)) := by unfold sls; rw [List.map_append]; exact iso_snoc _ _

set_option maxHeartbeats 4000000 in
set_option maxRecDepth 100000 in
theorem refSlope_any (b o n c : Nat) (X Y : Nat → Int) (V : VP n X Y) (hc : n ≤ c) (w : World) (hr : RdM w (some ⟨b, o, none⟩) n X Y) :
    Calls Try.prog 51 #[.slice (some ⟨b, o, none⟩) n c] w (fun e w' => e = .returned (.tuple #[.agg #[.int .i64 (med (sls X Y (prs X n))).1, .int .i64 (med (sls X Y (prs X n))).2], .int .i64 0]) ∧ Gr w w') := by
  have HV := Lib.hid V
  have n2 := V.two
  have n12 := V.few
  have HR := Lib.hid hr
  obtain ⟨md, hmd⟩ : ∃ m, med (sls X Y (prs X n)) = m := ⟨_, rfl⟩
  rw [hmd]
  have HMD := Lib.hid hmd
  clear hmd
  obtain ⟨W0, hW0⟩ : ∃ W0, w.alloc (.cells #[.int .i64 0, .int .i64 0] 27) = W0 := ⟨_, rfl⟩
  have G0 := Lib.hid (show Gr w W0 by rw [← hW0]; exact (Gr.refl w).alloc _)
  have B2 := Lib.hid (show Box2 W0 w.heap.size 0 0 by rw [← hW0]; exact Box2.new rfl)
  have CV := Lib.hid (refValid_any (some ⟨b, o, none⟩) n c X Y W0 (by omega) (hr.gr G0.out))
  rw [vP_iff.2 V] at CV
  clear V hr
  go_enter Try.func51, Try.ntmps51
  go_wp2_with (go_at_call 29; (with_reducible refine CV.out.mono ?_); rintro e w1 ⟨rfl, g1⟩; have G1 := Lib.hid g1; clear g1)
  go_loopw [4, 18] (fun so sk wr => ∃ A : Nat, A ≤ n ∧ sk = .int .i64 A ∧ Hid (RS wr so (iso (sls X Y (prs X A)))) ∧ Hid (Gr W0 wr)) (fun _ sk _ => n - (intOf sk).toNat)
  case atStart => exact ⟨0, Nat.zero_le _, rfl, Lib.hid (.inl ⟨rfl, rfl⟩), G1⟩
  case round =>
    obtain ⟨A, hA, rfl, RA, GA⟩ := hrel
    by_cases hlt : A < n
    · have i1 : (A : Int) < n := by omega
      have i3 : (A : Int) ≤ c := by omega
      obtain ⟨b', o', e, hc'⟩ := (HR.out.gr (G0.out.trans GA.out)).at hlt
      simp at e
      obtain ⟨rfl, rfl⟩ := e
      obtain ⟨cA0, cA1⟩ := hc' A hlt
      clear hc'
      go_wp2_with fail
      have GP := Lib.hid (show Gr wr (wr.alloc (.cells #[.int .i64 (X A), .int .i64 (Y A)] 56)) from (Gr.refl wr).alloc _)
      have BP := Lib.hid (show Box2 (wr.alloc (.cells #[.int .i64 (X A), .int .i64 (Y A)] 56)) wr.heap.size (X A) (Y A) from Box2.new rfl)
      have RP := Lib.hid (show RS (wr.alloc (.cells #[.int .i64 (X A), .int .i64 (Y A)] 56)) _ (iso (sls X Y (prs X A ++ prow X A 0))) by have := RA.out.gr GP.out; rwa [show prow X A 0 = [] from rfl, List.append_nil])
      generalize wr.alloc (.cells #[.int .i64 (X A), .int .i64 (Y A)] 56) = wp at *
      generalize wr.heap.size = bp at *
      clear cA0 cA1 RA
      go_loopw [4, 27] (fun so sk wy => ∃ B : Nat, B ≤ A ∧ sk = .int .i64 B ∧ Hid (RS wy so (iso (sls X Y (prs X A ++ prow X A B)))) ∧ Hid (Gr wp wy)) (fun _ sk _ => A - (intOf sk).toNat)
      case atStart => exact ⟨0, Nat.zero_le _, rfl, RP, Lib.hid (Gr.refl _)⟩
      case round =>
        obtain ⟨B, hB, rfl, RB, GB⟩ := hrel
        by_cases hlt2 : B < A
        · have j1 : (B : Int) < A := by omega
          obtain ⟨b', o', e, hc'⟩ := (HR.out.gr (((G0.out.trans GA.out).trans GP.out).trans GB.out)).at hlt
          simp at e
          obtain ⟨rfl, rfl⟩ := e
          obtain ⟨cB0, cB1⟩ := hc' B (by omega)
          clear hc'
          obtain ⟨y0, y1, _, _⟩ := BP.out.gr GB.out
          have lbp : bp < wr.heap.size := World.block_lt_of_cell? wr _ y0
          have RS1 := Lib.hid (show prow X A (B + 1) = prow X A B ++ (if X B ≠ X A then [(B, A)] else []) from rfl)
          by_cases hx : X A = X B
          · have RS2 := Lib.hid (show prow X A (B + 1) = prow X A B by rw [RS1.out, if_neg (by omega), List.append_nil])
            have d1 : (X A == X B) = true := by simpa using hx
            have GC := Lib.hid (GB.out.alloc (.cells #[.int .i64 (X B), .int .i64 (Y B)] 56))
            have RC := Lib.hid (RB.out.gr ((Gr.refl wr).alloc (.cells #[.int .i64 (X B), .int .i64 (Y B)] 56)))
            rw [← RS2.out] at RC
            clear hx RS1 RS2
            go_wp2_with fail
            go_roundw
            case rel => exact ⟨B + 1, by omega, by go_num, RC, GC⟩
            case measure => simp [intOf]; omega
          · have d1 : (X A == X B) = false := by simpa using hx
            have hpr : IsPr n X (B, A) := ⟨hlt2, hlt, fun e => hx e.symm⟩
            have RS2 := Lib.hid (show iso (sls X Y (prs X A ++ prow X A (B + 1))) = ins (slp X Y (B, A)) (iso (sls X Y (prs X A ++ prow X A B))) by rw [RS1.out, if_pos (fun e => hx e.symm), ← List.append_assoc, sls_snoc])
            have SB := Lib.hid (slp_rd HV.out.ok hpr)
            have LB := Lib.hid (show (iso (sls X Y (prs X A ++ prow X A B))).length < 170 by
              rw [iso_length]
              unfold sls
              have l1 := prow_len X A B
              have l2 := prs_len X A (by omega)
              rw [List.length_map, List.length_append]
              omega)
            have AB := Lib.hid (show ∀ x ∈ iso (sls X Y (prs X A ++ prow X A B)), Sl2 x from fun x hx => by
              obtain ⟨q, hq, rfl⟩ := List.mem_map.1 ((iso_perm _).mem_iff.1 hx)
              refine slp_sl2 HV.out.ok ?_
              rcases List.mem_append.1 hq with hq | hq
              · have := prs_pr (X := X) (Nat.le_refl A) q hq
                exact ⟨this.1, by have := this.2.1; omega, this.2.2⟩
              · have := prow_pr (X := X) (n := n) hlt (Nat.le_of_lt hlt2) q hq
                exact this)
            have C61 := Lib.hid (show ∀ w', Calls Try.prog 61 #[.agg #[.int .i64 (X A), .int .i64 (Y A)], .agg #[.int .i64 (X B), .int .i64 (Y B)]] w' (RetL (pA X Y (B, A)) (pB X Y (B, A)) (pD X Y (B, A)) w') from fun w' => by
              have h := refthrough_any (X A) (Y A) (X B) (Y B) w' (HV.out.ok A hlt) (HV.out.ok B (by omega)) hx
              obtain ⟨t1, t2, t3⟩ := th_swap (y1 := Y B) (y2 := Y A) (fun e => hx e.symm)
              rw [t1, t2, t3] at h
              exact h)
            obtain ⟨IL, e1, e2⟩ := pr_in HV.out.ok hpr
            have C44 := Lib.hid (show ∀ w', Calls Try.prog 44 #[.int .i64 (pA X Y (B, A)), .int .i64 (pD X Y (B, A))] w' (RetR (slp X Y (B, A)).1 (slp X Y (B, A)).2 w') from fun w' => Ratio_any (pA X Y (B, A)) (pD X Y (B, A)) w' (by have := IL.1; unfold Sz; omega) (by unfold Sz; omega) (by omega))
            generalize pA X Y (B, A) = tA at *
            generalize pB X Y (B, A) = tB at *
            generalize pD X Y (B, A) = tD at *
            generalize iso (sls X Y (prs X A ++ prow X A B)) = L at *
            generalize slp X Y (B, A) = r at *
            clear hx RS1 hpr IL e1 e2
            go_wp2_with (first
              | (go_at_call 61; (with_reducible refine (C61.out _).mono ?_); rintro e w3 ⟨rfl, g3⟩; have g3' := ((Gr.refl _).alloc _).trans (g3.alloc (.cells #[.int .i64 tA, .int .i64 tB, .int .i64 tD] 37)); have G3 := Lib.hid g3'; obtain ⟨m0, m1, m2, _, _, _⟩ := (show Box3 (w3.alloc (.cells #[.int .i64 tA, .int .i64 tB, .int .i64 tD] 37)) w3.heap.size tA tB tD from Box3.new rfl); clear g3 g3')
              | (go_at_call 44; (with_reducible refine (C44.out _).mono ?_); rintro e w4 ⟨rfl, g4⟩; have G4 := Lib.hid (G3.out.trans (g4.alloc (.cells #[.int .i64 r.1, .int .i64 r.2] 27))); have BR := Lib.hid (show Box2 (w4.alloc (.cells #[.int .i64 r.1, .int .i64 r.2] 27)) w4.heap.size r.1 r.2 from Box2.new rfl); clear g4))
            have R4 := Lib.hid (RB.out.gr G4.out)
            have GQ := Lib.hid (GB.out.trans G4.out)
            generalize w4.alloc (.cells #[.int .i64 r.1, .int .i64 r.2] 27) = wq at *
            generalize w4.heap.size = br at *
            clear cB0 cB1 y0 y1 m0 m1 m2 C61 C44 G3 G4 RB GB
            rcases R4.out with ⟨rfl, hL⟩ | ⟨g, cl, rfl, hne, hl1, hl2, rd⟩
            · have EI := Lib.hid (show ins r L = [r] by rw [hL]; rfl)
              have hl0 : L.length = 0 := by rw [hL]; rfl
              clear R4 hL
              go_loopw [11] (fun sk wz => ∃ t : Nat, t ≤ L.length ∧ sk = .int .i64 t ∧ Hid (∀ j, j < t → (L.getD j (0, 0)).1 * r.2 < r.1 * (L.getD j (0, 0)).2) ∧ Hid (Gr wq wz)) (fun sk _ => L.length - (intOf sk).toNat)
              case atStart => exact ⟨0, Nat.zero_le _, rfl, Lib.hid (fun j h => by omega), Lib.hid (Gr.refl _)⟩
              case round =>
                obtain ⟨t, ht, rfl, HT, GZ⟩ := hrel
                obtain ⟨q0, q1, _, _⟩ := BR.out.gr GZ.out
                obtain rfl : t = 0 := by omega
                go_wp2_with fail
                refine (wpIn_wide (n := 3)).1 ?_
                refine wpIn_region_held (fun w' => Gr wr w') 12 (by kernel_rfl) rfl rfl ?_
                have hS : Gr wr wr.drew := (Gr.refl wr).drew
                iterate 5 (first
                  | (refine wpAnyHIn_take 0 (v := ?_) rfl (by kernel_rfl) (by kernel_rfl) (by kernel_rfl) (by decide +kernel) (fun _ _ _ h => h) (fun _ _ _ => trivial) (by rfl) (fun w' hSw => ?_) hS ?_; rotate_left 1; (focus (skip; go_simp; try with_reducible rfl)); simp only [Act.put, List.setIfInBounds_toArray, List.set_cons_zero, List.set_cons_succ])
                  | (refine wpAnyHIn_take 1 (v := ?_) rfl (by kernel_rfl) (by kernel_rfl) (by kernel_rfl) (by decide +kernel) (fun _ _ _ h => h) (fun _ _ _ => trivial) (by rfl) (fun w' hSw => ?_) hS ?_; rotate_left 1; (focus (skip; go_simp; try with_reducible rfl)); simp only [Act.put, List.setIfInBounds_toArray, List.set_cons_zero, List.set_cons_succ])
                  | (refine wpAnyHIn_take 2 (v := ?_) rfl (by kernel_rfl) (by kernel_rfl) (by kernel_rfl) (by decide +kernel) (fun _ _ _ h => h) (fun _ _ _ => trivial) (by rfl) (fun w' hSw => ?_) hS ?_; rotate_left 1; (focus (skip; go_simp; try with_reducible rfl)); simp only [Act.put, List.setIfInBounds_toArray, List.set_cons_zero, List.set_cons_succ])
                  | (refine wpAnyHIn_take 3 (v := ?_) rfl (by kernel_rfl) (by kernel_rfl) (by kernel_rfl) (by decide +kernel) (fun _ _ _ h => h) (fun _ _ _ => trivial) (by rfl) (fun w' hSw => ?_) hS ?_; rotate_left 1; (focus (skip; go_simp; try with_reducible rfl)); simp only [Act.put, List.setIfInBounds_toArray, List.set_cons_zero, List.set_cons_succ])
                  | (refine wpAnyHIn_take 4 (v := ?_) rfl (by kernel_rfl) (by kernel_rfl) (by kernel_rfl) (by decide +kernel) (fun _ _ _ h => h) (fun _ _ _ => trivial) (by rfl) (fun w' hSw => ?_) hS ?_; rotate_left 1; (focus (skip; go_simp; try with_reducible rfl)); simp only [Act.put, List.setIfInBounds_toArray, List.set_cons_zero, List.set_cons_succ]))
                iterate 6 (first
                  | (refine wpAnyHIn_skip 5 rfl (by kernel_rfl) (by kernel_rfl) (by kernel_rfl) (by decide +kernel) (fun _ _ _ h => h) (fun _ _ _ => trivial) (by rfl) hS ?_; simp only [Act.put, List.setIfInBounds_toArray, List.set_cons_zero, List.set_cons_succ])
                  | (refine wpAnyHIn_skip 6 rfl (by kernel_rfl) (by kernel_rfl) (by kernel_rfl) (by decide +kernel) (fun _ _ _ h => h) (fun _ _ _ => trivial) (by rfl) hS ?_; simp only [Act.put, List.setIfInBounds_toArray, List.set_cons_zero, List.set_cons_succ])
                  | (refine wpAnyHIn_skip 7 rfl (by kernel_rfl) (by kernel_rfl) (by kernel_rfl) (by decide +kernel) (fun _ _ _ h => h) (fun _ _ _ => trivial) (by rfl) hS ?_; simp only [Act.put, List.setIfInBounds_toArray, List.set_cons_zero, List.set_cons_succ])
                  | (refine wpAnyHIn_skip 8 rfl (by kernel_rfl) (by kernel_rfl) (by kernel_rfl) (by decide +kernel) (fun _ _ _ h => h) (fun _ _ _ => trivial) (by rfl) hS ?_; simp only [Act.put, List.setIfInBounds_toArray, List.set_cons_zero, List.set_cons_succ])
                  | (refine wpAnyHIn_skip 9 rfl (by kernel_rfl) (by kernel_rfl) (by kernel_rfl) (by decide +kernel) (fun _ _ _ h => h) (fun _ _ _ => trivial) (by rfl) hS ?_; simp only [Act.put, List.setIfInBounds_toArray, List.set_cons_zero, List.set_cons_succ])
                  | (refine wpAnyHIn_skip 10 rfl (by kernel_rfl) (by kernel_rfl) (by kernel_rfl) (by decide +kernel) (fun _ _ _ h => h) (fun _ _ _ => trivial) (by rfl) hS ?_; simp only [Act.put, List.setIfInBounds_toArray, List.set_cons_zero, List.set_cons_succ]))
                iterate 1 (first
                  | (refine wpAnyHIn_take 11 (v := ?_) rfl (by kernel_rfl) (by kernel_rfl) (by kernel_rfl) (by decide +kernel) (fun _ _ _ h => h) (fun _ _ _ => trivial) (by rfl) (fun w' hSw => ?_) hS ?_; rotate_left 1; (focus (skip; go_simp; try with_reducible rfl)); simp only [Act.put, List.setIfInBounds_toArray, List.set_cons_zero, List.set_cons_succ]))
                refine wpAnyHIn_done (by kernel_rfl) ?_ _
                have GZ5 := Lib.hid (GZ.out.trans hS)
                clear hS
                generalize wr.drew = w5 at *
                obtain ⟨q0, q1, _, _⟩ := BR.out.gr GZ5.out
                go_wp2_with fail
                refine (wpIn_wide (n := 3)).1 ?_
                refine wpIn_region_held (fun w' => Gr w5 w') 12 (by kernel_rfl) rfl rfl ?_
                have hS : Gr w5 _ := (Gr.refl w5).drew
                iterate 8 (first
                  | (refine wpAnyHIn_take 0 (v := ?_) rfl (by kernel_rfl) (by kernel_rfl) (by kernel_rfl) (by decide +kernel) (fun _ _ _ h => h) (fun _ _ _ => trivial) (by rfl) (fun w' hSw => ?_) hS ?_; rotate_left 1; (focus (have u0 := hSw.cell q0; have u1 := hSw.cell q1; go_simp; try with_reducible rfl)); simp only [Act.put, List.setIfInBounds_toArray, List.set_cons_zero, List.set_cons_succ])
                  | (refine wpAnyHIn_take 1 (v := ?_) rfl (by kernel_rfl) (by kernel_rfl) (by kernel_rfl) (by decide +kernel) (fun _ _ _ h => h) (fun _ _ _ => trivial) (by rfl) (fun w' hSw => ?_) hS ?_; rotate_left 1; (focus (have u0 := hSw.cell q0; have u1 := hSw.cell q1; go_simp; try with_reducible rfl)); simp only [Act.put, List.setIfInBounds_toArray, List.set_cons_zero, List.set_cons_succ])
                  | (refine wpAnyHIn_take 2 (v := ?_) rfl (by kernel_rfl) (by kernel_rfl) (by kernel_rfl) (by decide +kernel) (fun _ _ _ h => h) (fun _ _ _ => trivial) (by rfl) (fun w' hSw => ?_) hS ?_; rotate_left 1; (focus (have u0 := hSw.cell q0; have u1 := hSw.cell q1; go_simp; try with_reducible rfl)); simp only [Act.put, List.setIfInBounds_toArray, List.set_cons_zero, List.set_cons_succ])
                  | (refine wpAnyHIn_take 3 (v := ?_) rfl (by kernel_rfl) (by kernel_rfl) (by kernel_rfl) (by decide +kernel) (fun _ _ _ h => h) (fun _ _ _ => trivial) (by rfl) (fun w' hSw => ?_) hS ?_; rotate_left 1; (focus (have u0 := hSw.cell q0; have u1 := hSw.cell q1; go_simp; try with_reducible rfl)); simp only [Act.put, List.setIfInBounds_toArray, List.set_cons_zero, List.set_cons_succ])
                  | (refine wpAnyHIn_take 4 (v := ?_) rfl (by kernel_rfl) (by kernel_rfl) (by kernel_rfl) (by decide +kernel) (fun _ _ _ h => h) (fun _ _ _ => trivial) (by rfl) (fun w' hSw => ?_) hS ?_; rotate_left 1; (focus (have u0 := hSw.cell q0; have u1 := hSw.cell q1; go_simp; try with_reducible rfl)); simp only [Act.put, List.setIfInBounds_toArray, List.set_cons_zero, List.set_cons_succ])
                  | (refine wpAnyHIn_take 6 (v := ?_) rfl (by kernel_rfl) (by kernel_rfl) (by kernel_rfl) (by decide +kernel) (fun _ _ _ h => h) (fun _ _ _ => trivial) (by rfl) (fun w' hSw => ?_) hS ?_; rotate_left 1; (focus (have u0 := hSw.cell q0; have u1 := hSw.cell q1; go_simp; try with_reducible rfl)); simp only [Act.put, List.setIfInBounds_toArray, List.set_cons_zero, List.set_cons_succ])
                  | (refine wpAnyHIn_take 7 (v := ?_) rfl (by kernel_rfl) (by kernel_rfl) (by kernel_rfl) (by decide +kernel) (fun _ _ _ h => h) (fun _ _ _ => trivial) (by rfl) (fun w' hSw => ?_) hS ?_; rotate_left 1; (focus (have u0 := hSw.cell q0; have u1 := hSw.cell q1; go_simp; try with_reducible rfl)); simp only [Act.put, List.setIfInBounds_toArray, List.set_cons_zero, List.set_cons_succ])
                  | (refine wpAnyHIn_take 8 (v := ?_) rfl (by kernel_rfl) (by kernel_rfl) (by kernel_rfl) (by decide +kernel) (fun _ _ _ h => h) (fun _ _ _ => trivial) (by rfl) (fun w' hSw => ?_) hS ?_; rotate_left 1; (focus (have u0 := hSw.cell q0; have u1 := hSw.cell q1; go_simp; try with_reducible rfl)); simp only [Act.put, List.setIfInBounds_toArray, List.set_cons_zero, List.set_cons_succ]))
                refine wpAnyHIn_ready [5] (by kernel_rfl) (by simp) ?_
                refine AllHIn.cons rfl (by rfl) (fun K hK => ?_) AllHIn.nil
                go_simp
                have hS6 : Gr w5 (w5.alloc (.cells #[.int .i64 r.1, .int .i64 r.2] 27)).drew := ((Gr.refl w5).alloc _).drew
                have B6 := Lib.hid (show Box2 (w5.alloc (.cells #[.int .i64 r.1, .int .i64 r.2] 27)).drew w5.heap.size r.1 r.2 from (Box2.new rfl).drew)
                refine hK.out _ _ hS6 ?_
                clear hK K
                generalize (w5.alloc (.cells #[.int .i64 r.1, .int .i64 r.2] 27)).drew = w6 at *
                obtain ⟨b7, cap7, w7, run7, g7, rd7⟩ := app1 (ty := 38) (c2 := 0) (n := 0) (a2 := none) (l2 := []) (rd_one B6.out) (.inl rfl) rfl (by omega)
                refine wpAnyHIn_ready [9] (by kernel_rfl) (by simp) ?_
                refine AllHIn.cons rfl (by rfl) (fun K hK => ?_) AllHIn.nil
                refine wpIn_run (.tmp 63) (.tmp 66) 38 rfl rfl rfl run7 ?_
                refine hK.out _ _ (hS6.trans g7) ?_
                clear hK K
                obtain ⟨cap8, w8, run8, c81, c82, g8, rd8⟩ := run_cat (ty := 38) (c2 := cap7) (base := none) (k := 0) (l1 := []) (.inl rfl) rfl rd7 (by simp; try omega) (by omega) (by omega)
                refine wpAnyHIn_ready [10] (by kernel_rfl) (by simp) ?_
                refine AllHIn.cons rfl (by rfl) (fun K hK => ?_) AllHIn.nil
                refine wpIn_run (.tmp 61) (.tmp 67) 38 rfl rfl rfl run8 ?_
                refine hK.out _ _ ((hS6.trans g7).trans g8) ?_
                clear hK K
                have G8 := Lib.hid ((hS6.trans g7).trans g8)
                have hS := G8.out
                have RS8 := Lib.hid rd8
                clear run7 run8 rd7 rd8 g7 g8 hS6 B6
                iterate 1 (first
                  | (refine wpAnyHIn_take 11 (v := ?_) rfl (by kernel_rfl) (by kernel_rfl) (by kernel_rfl) (by decide +kernel) (fun _ _ _ h => h) (fun _ _ _ => trivial) (by rfl) (fun w' hSw => ?_) hS ?_; rotate_left 1; (focus (skip; go_simp; try with_reducible rfl)); simp only [Act.put, List.setIfInBounds_toArray, List.set_cons_zero, List.set_cons_succ]))
                refine wpAnyHIn_done (by kernel_rfl) ?_ _
                clear hS
                go_wp2_with fail
                go_roundw
                case rel => exact ⟨B + 1, hlt2, by go_num, Lib.hid (.inr ⟨_, cap8, by rw [RS2.out, EI.out]; rfl, by rw [RS2.out, EI.out]; simp, by rw [RS2.out, EI.out]; exact c81, c82, by rw [RS2.out, EI.out]; exact RS8.out⟩), Lib.hid (GQ.out.trans (GZ5.out.trans G8.out))⟩
                case measure => simp [intOf]; omega
            · have RD := Lib.hid rd
              clear rd R4
              go_loopw [11] (fun sk wz => ∃ t : Nat, t ≤ L.length ∧ sk = .int .i64 t ∧ Hid (∀ j, j < t → (L.getD j (0, 0)).1 * r.2 < r.1 * (L.getD j (0, 0)).2) ∧ Hid (Gr wq wz)) (fun sk _ => L.length - (intOf sk).toNat)
              case atStart => exact ⟨0, Nat.zero_le _, rfl, Lib.hid (fun j h => by omega), Lib.hid (Gr.refl _)⟩
              case round =>
                obtain ⟨t, ht, rfl, HT, GZ⟩ := hrel
                obtain ⟨q0, q1, _, _⟩ := BR.out.gr GZ.out
                have lm : L.length < 170 := LB.out
                by_cases ht2 : t < L.length
                · have k1 : (t : Int) < (L.length : Int) := Int.ofNat_lt.2 ht2
                  obtain ⟨g', o', e, hc'⟩ := (RD.out.gr GZ.out).at ht2
                  simp at e
                  obtain ⟨rfl, rfl⟩ := e
                  obtain ⟨v0, v1⟩ := hc' t ht2
                  rw [Nat.zero_add] at v0 v1
                  unfold px at v0
                  unfold py at v1
                  clear hc'
                  have SX := AB.out (L.getD t (0, 0)) (by rw [List.getD_eq_getElem?_getD, List.getElem?_eq_getElem ht2]; exact List.getElem_mem ht2)
                  have SR := SB.out
                  have C46 := Lib.hid (show ∀ w', Calls Try.prog 46 #[.agg #[.int .i64 (L.getD t (0, 0)).1, .int .i64 (L.getD t (0, 0)).2], .agg #[.int .i64 r.1, .int .i64 r.2]] w' (RetB (decide ((L.getD t (0, 0)).1 * r.2 < r.1 * (L.getD t (0, 0)).2)) w') from fun w' => by
                    obtain ⟨a1, a2, a3, a4⟩ := SX
                    obtain ⟨⟨c1, _⟩, c2, c3, c4⟩ := SR
                    have m1 := mul_bd (a := (L.getD t (0, 0)).1) (b := r.2) (A := 1000000) (B := 200) (by omega) (by omega) (by omega) (by omega)
                    have m2 := mul_bd (a := r.1) (b := (L.getD t (0, 0)).2) (A := 1000000) (B := 200) (by omega) (by omega) (by omega) (by omega)
                    exact refLess_any _ _ _ _ w' (by unfold Sz; omega) (by unfold Sz; omega))
                  have HT2 := Lib.hid (fun h : (L.getD t (0, 0)).1 * r.2 < r.1 * (L.getD t (0, 0)).2 => show ∀ j, j < t + 1 → (L.getD j (0, 0)).1 * r.2 < r.1 * (L.getD j (0, 0)).2 from fun j hj => by
                    by_cases e : j = t
                    · rw [e]; exact h
                    · exact HT.out j (by omega))
                  have EI := Lib.hid (fun h : ¬ (L.getD t (0, 0)).1 * r.2 < r.1 * (L.getD t (0, 0)).2 => ins_at ht HT.out (.inr h))
                  obtain ⟨ls, hls⟩ : ∃ ls, decide ((L.getD t (0, 0)).1 * r.2 < r.1 * (L.getD t (0, 0)).2) = ls := ⟨_, rfl⟩
                  rw [hls] at C46
                  have HLS := Lib.hid hls
                  clear hls SX SR
                  generalize (L.getD t (0, 0)).1 = y1 at *
                  generalize (L.getD t (0, 0)).2 = y2 at *
                  go_wp2_with fail
                  refine (wpIn_wide (n := 3)).1 ?_
                  refine wpIn_region_held (fun w' => Gr wr w') 12 (by kernel_rfl) rfl rfl ?_
                  have hS : Gr wr wr.drew := (Gr.refl wr).drew
                  iterate 10 (first
                    | (refine wpAnyHIn_take 0 (v := ?_) rfl (by kernel_rfl) (by kernel_rfl) (by kernel_rfl) (by decide +kernel) (fun _ _ _ h => h) (fun _ _ _ => trivial) (by rfl) (fun w' hSw => ?_) hS ?_; rotate_left 1; (focus (have u0 := hSw.cell q0; have u1 := hSw.cell q1; have u2 := hSw.cell v0; have u3 := hSw.cell v1; go_simp; try with_reducible rfl)); simp only [Act.put, List.setIfInBounds_toArray, List.set_cons_zero, List.set_cons_succ])
                    | (refine wpAnyHIn_take 1 (v := ?_) rfl (by kernel_rfl) (by kernel_rfl) (by kernel_rfl) (by decide +kernel) (fun _ _ _ h => h) (fun _ _ _ => trivial) (by rfl) (fun w' hSw => ?_) hS ?_; rotate_left 1; (focus (have u0 := hSw.cell q0; have u1 := hSw.cell q1; have u2 := hSw.cell v0; have u3 := hSw.cell v1; go_simp; try with_reducible rfl)); simp only [Act.put, List.setIfInBounds_toArray, List.set_cons_zero, List.set_cons_succ])
                    | (refine wpAnyHIn_take 2 (v := ?_) rfl (by kernel_rfl) (by kernel_rfl) (by kernel_rfl) (by decide +kernel) (fun _ _ _ h => h) (fun _ _ _ => trivial) (by rfl) (fun w' hSw => ?_) hS ?_; rotate_left 1; (focus (have u0 := hSw.cell q0; have u1 := hSw.cell q1; have u2 := hSw.cell v0; have u3 := hSw.cell v1; go_simp; try with_reducible rfl)); simp only [Act.put, List.setIfInBounds_toArray, List.set_cons_zero, List.set_cons_succ])
                    | (refine wpAnyHIn_take 3 (v := ?_) rfl (by kernel_rfl) (by kernel_rfl) (by kernel_rfl) (by decide +kernel) (fun _ _ _ h => h) (fun _ _ _ => trivial) (by rfl) (fun w' hSw => ?_) hS ?_; rotate_left 1; (focus (have u0 := hSw.cell q0; have u1 := hSw.cell q1; have u2 := hSw.cell v0; have u3 := hSw.cell v1; go_simp; try with_reducible rfl)); simp only [Act.put, List.setIfInBounds_toArray, List.set_cons_zero, List.set_cons_succ])
                    | (refine wpAnyHIn_take 4 (v := ?_) rfl (by kernel_rfl) (by kernel_rfl) (by kernel_rfl) (by decide +kernel) (fun _ _ _ h => h) (fun _ _ _ => trivial) (by rfl) (fun w' hSw => ?_) hS ?_; rotate_left 1; (focus (have u0 := hSw.cell q0; have u1 := hSw.cell q1; have u2 := hSw.cell v0; have u3 := hSw.cell v1; go_simp; try with_reducible rfl)); simp only [Act.put, List.setIfInBounds_toArray, List.set_cons_zero, List.set_cons_succ])
                    | (refine wpAnyHIn_take 5 (v := ?_) rfl (by kernel_rfl) (by kernel_rfl) (by kernel_rfl) (by decide +kernel) (fun _ _ _ h => h) (fun _ _ _ => trivial) (by rfl) (fun w' hSw => ?_) hS ?_; rotate_left 1; (focus (have u0 := hSw.cell q0; have u1 := hSw.cell q1; have u2 := hSw.cell v0; have u3 := hSw.cell v1; go_simp; try with_reducible rfl)); simp only [Act.put, List.setIfInBounds_toArray, List.set_cons_zero, List.set_cons_succ])
                    | (refine wpAnyHIn_take 6 (v := ?_) rfl (by kernel_rfl) (by kernel_rfl) (by kernel_rfl) (by decide +kernel) (fun _ _ _ h => h) (fun _ _ _ => trivial) (by rfl) (fun w' hSw => ?_) hS ?_; rotate_left 1; (focus (have u0 := hSw.cell q0; have u1 := hSw.cell q1; have u2 := hSw.cell v0; have u3 := hSw.cell v1; go_simp; try with_reducible rfl)); simp only [Act.put, List.setIfInBounds_toArray, List.set_cons_zero, List.set_cons_succ])
                    | (refine wpAnyHIn_take 7 (v := ?_) rfl (by kernel_rfl) (by kernel_rfl) (by kernel_rfl) (by decide +kernel) (fun _ _ _ h => h) (fun _ _ _ => trivial) (by rfl) (fun w' hSw => ?_) hS ?_; rotate_left 1; (focus (have u0 := hSw.cell q0; have u1 := hSw.cell q1; have u2 := hSw.cell v0; have u3 := hSw.cell v1; go_simp; try with_reducible rfl)); simp only [Act.put, List.setIfInBounds_toArray, List.set_cons_zero, List.set_cons_succ])
                    | (refine wpAnyHIn_take 8 (v := ?_) rfl (by kernel_rfl) (by kernel_rfl) (by kernel_rfl) (by decide +kernel) (fun _ _ _ h => h) (fun _ _ _ => trivial) (by rfl) (fun w' hSw => ?_) hS ?_; rotate_left 1; (focus (have u0 := hSw.cell q0; have u1 := hSw.cell q1; have u2 := hSw.cell v0; have u3 := hSw.cell v1; go_simp; try with_reducible rfl)); simp only [Act.put, List.setIfInBounds_toArray, List.set_cons_zero, List.set_cons_succ])
                    | (refine wpAnyHIn_take 9 (v := ?_) rfl (by kernel_rfl) (by kernel_rfl) (by kernel_rfl) (by decide +kernel) (fun _ _ _ h => h) (fun _ _ _ => trivial) (by rfl) (fun w' hSw => ?_) hS ?_; rotate_left 1; (focus (have u0 := hSw.cell q0; have u1 := hSw.cell q1; have u2 := hSw.cell v0; have u3 := hSw.cell v1; go_simp; try with_reducible rfl)); simp only [Act.put, List.setIfInBounds_toArray, List.set_cons_zero, List.set_cons_succ]))
                  refine wpAnyHIn_ready [10] (by kernel_rfl) (by simp) ?_
                  refine AllHIn.cons rfl (by rfl) (fun K hK => ?_) AllHIn.nil
                  go_simp
                  refine (callsIn_wide.2 (C46.out _)).mono ?_
                  rintro e w5 ⟨rfl, g5⟩
                  have hS := hS.trans g5
                  refine hK.out _ _ hS ?_
                  clear hK K
                  iterate 1 (first
                    | (refine wpAnyHIn_take 11 (v := ?_) rfl (by kernel_rfl) (by kernel_rfl) (by kernel_rfl) (by decide +kernel) (fun _ _ _ h => h) (fun _ _ _ => trivial) (by rfl) (fun w' hSw => ?_) hS ?_; rotate_left 1; (focus (skip; go_simp; try with_reducible rfl)); simp only [Act.put, List.setIfInBounds_toArray, List.set_cons_zero, List.set_cons_succ]))
                  refine wpAnyHIn_done (by kernel_rfl) ?_ _
                  have GZ5 := Lib.hid (GZ.out.trans hS)
                  obtain ⟨q0, q1, _, _⟩ := BR.out.gr GZ5.out
                  clear hS g5 C46 v0 v1
                  cases ls with
                  | true =>
                    have HT3 := Lib.hid (HT2.out (of_decide_eq_true HLS.out))
                    go_wp2_with fail
                    go_roundw
                    case rel => exact ⟨t + 1, ht2, by go_num, HT3, GZ5⟩
                    case measure => simp [intOf]; omega
                  | false =>
                    have EI := Lib.hid (EI.out (Int.not_lt.1 (of_decide_eq_false HLS.out)))
                    go_wp2_with fail
                    have hl3 : t ≤ cl := by omega
                    have k3 : (t : Int) ≤ (cl : Int) := Int.ofNat_le.2 hl3
                    have k4 : (t : Int) ≤ (L.length : Int) := Int.ofNat_le.2 ht
                    have k5 : (L.length : Int) ≤ (cl : Int) := Int.ofNat_le.2 hl1
                    refine (wpIn_wide (n := 3)).1 ?_
                    refine wpIn_region_held (fun w' => Gr w5 w') 12 (by kernel_rfl) rfl rfl ?_
                    have hS : Gr w5 _ := (Gr.refl w5).drew
                    iterate 8 (first
                      | (refine wpAnyHIn_take 0 (v := ?_) rfl (by kernel_rfl) (by kernel_rfl) (by kernel_rfl) (by decide +kernel) (fun _ _ _ h => h) (fun _ _ _ => trivial) (by rfl) (fun w' hSw => ?_) hS ?_; rotate_left 1; (focus (have u0 := hSw.cell q0; have u1 := hSw.cell q1; go_simp; try with_reducible rfl)); simp only [Act.put, List.setIfInBounds_toArray, List.set_cons_zero, List.set_cons_succ])
                      | (refine wpAnyHIn_take 1 (v := ?_) rfl (by kernel_rfl) (by kernel_rfl) (by kernel_rfl) (by decide +kernel) (fun _ _ _ h => h) (fun _ _ _ => trivial) (by rfl) (fun w' hSw => ?_) hS ?_; rotate_left 1; (focus (have u0 := hSw.cell q0; have u1 := hSw.cell q1; go_simp; try with_reducible rfl)); simp only [Act.put, List.setIfInBounds_toArray, List.set_cons_zero, List.set_cons_succ])
                      | (refine wpAnyHIn_take 2 (v := ?_) rfl (by kernel_rfl) (by kernel_rfl) (by kernel_rfl) (by decide +kernel) (fun _ _ _ h => h) (fun _ _ _ => trivial) (by rfl) (fun w' hSw => ?_) hS ?_; rotate_left 1; (focus (have u0 := hSw.cell q0; have u1 := hSw.cell q1; go_simp; try with_reducible rfl)); simp only [Act.put, List.setIfInBounds_toArray, List.set_cons_zero, List.set_cons_succ])
                      | (refine wpAnyHIn_take 3 (v := ?_) rfl (by kernel_rfl) (by kernel_rfl) (by kernel_rfl) (by decide +kernel) (fun _ _ _ h => h) (fun _ _ _ => trivial) (by rfl) (fun w' hSw => ?_) hS ?_; rotate_left 1; (focus (have u0 := hSw.cell q0; have u1 := hSw.cell q1; go_simp; try with_reducible rfl)); simp only [Act.put, List.setIfInBounds_toArray, List.set_cons_zero, List.set_cons_succ])
                      | (refine wpAnyHIn_take 4 (v := ?_) rfl (by kernel_rfl) (by kernel_rfl) (by kernel_rfl) (by decide +kernel) (fun _ _ _ h => h) (fun _ _ _ => trivial) (by rfl) (fun w' hSw => ?_) hS ?_; rotate_left 1; (focus (have u0 := hSw.cell q0; have u1 := hSw.cell q1; go_simp; try with_reducible rfl)); simp only [Act.put, List.setIfInBounds_toArray, List.set_cons_zero, List.set_cons_succ])
                      | (refine wpAnyHIn_take 6 (v := ?_) rfl (by kernel_rfl) (by kernel_rfl) (by kernel_rfl) (by decide +kernel) (fun _ _ _ h => h) (fun _ _ _ => trivial) (by rfl) (fun w' hSw => ?_) hS ?_; rotate_left 1; (focus (have u0 := hSw.cell q0; have u1 := hSw.cell q1; go_simp; try with_reducible rfl)); simp only [Act.put, List.setIfInBounds_toArray, List.set_cons_zero, List.set_cons_succ])
                      | (refine wpAnyHIn_take 7 (v := ?_) rfl (by kernel_rfl) (by kernel_rfl) (by kernel_rfl) (by decide +kernel) (fun _ _ _ h => h) (fun _ _ _ => trivial) (by rfl) (fun w' hSw => ?_) hS ?_; rotate_left 1; (focus (have u0 := hSw.cell q0; have u1 := hSw.cell q1; go_simp; try with_reducible rfl)); simp only [Act.put, List.setIfInBounds_toArray, List.set_cons_zero, List.set_cons_succ])
                      | (refine wpAnyHIn_take 8 (v := ?_) rfl (by kernel_rfl) (by kernel_rfl) (by kernel_rfl) (by decide +kernel) (fun _ _ _ h => h) (fun _ _ _ => trivial) (by rfl) (fun w' hSw => ?_) hS ?_; rotate_left 1; (focus (have u0 := hSw.cell q0; have u1 := hSw.cell q1; go_simp; try with_reducible rfl)); simp only [Act.put, List.setIfInBounds_toArray, List.set_cons_zero, List.set_cons_succ]))
                    refine wpAnyHIn_ready [5] (by kernel_rfl) (by simp) ?_
                    refine AllHIn.cons rfl (by rfl) (fun K hK => ?_) AllHIn.nil
                    go_simp
                    have hS6 : Gr w5 (w5.alloc (.cells #[.int .i64 r.1, .int .i64 r.2] 27)).drew := ((Gr.refl w5).alloc _).drew
                    have B6 := Lib.hid (show Box2 (w5.alloc (.cells #[.int .i64 r.1, .int .i64 r.2] 27)).drew w5.heap.size r.1 r.2 from (Box2.new rfl).drew)
                    refine hK.out _ _ hS6 ?_
                    clear hK K
                    generalize (w5.alloc (.cells #[.int .i64 r.1, .int .i64 r.2] 27)).drew = w6 at *
                    obtain ⟨b7, cap7, w7, run7, g7, rd7⟩ := app1 (ty := 38) (c2 := cl - t) (rd_one B6.out) (rd_drop ((RD.out.gr GZ5.out).gr hS6) ht hl1) (by simp) (by omega)
                    refine wpAnyHIn_ready [9] (by kernel_rfl) (by simp) ?_
                    refine AllHIn.cons rfl (by rfl) (fun K hK => ?_) AllHIn.nil
                    refine wpIn_run (.tmp 63) (.tmp 66) 38 rfl rfl rfl run7 ?_
                    refine hK.out _ _ (hS6.trans g7) ?_
                    clear hK K
                    obtain ⟨cap8, w8, run8, c81, c82, g8, rd8⟩ := run_cat (ty := 38) (c2 := cap7) (rd_take ((RD.out.gr GZ5.out).gr (hS6.trans g7)) ht) (by simp; try omega) rd7 (by simp; try omega) (by omega) (by omega)
                    refine wpAnyHIn_ready [10] (by kernel_rfl) (by simp) ?_
                    refine AllHIn.cons rfl (by rfl) (fun K hK => ?_) AllHIn.nil
                    refine wpIn_run (.tmp 61) (.tmp 67) 38 rfl rfl rfl run8 ?_
                    refine hK.out _ _ ((hS6.trans g7).trans g8) ?_
                    clear hK K
                    have G8 := Lib.hid ((hS6.trans g7).trans g8)
                    have hS := G8.out
                    have RS8 := Lib.hid rd8
                    clear run7 run8 rd7 rd8 g7 g8 hS6 B6
                    iterate 1 (first
                      | (refine wpAnyHIn_take 11 (v := ?_) rfl (by kernel_rfl) (by kernel_rfl) (by kernel_rfl) (by decide +kernel) (fun _ _ _ h => h) (fun _ _ _ => trivial) (by rfl) (fun w' hSw => ?_) hS ?_; rotate_left 1; (focus (skip; go_simp; try with_reducible rfl)); simp only [Act.put, List.setIfInBounds_toArray, List.set_cons_zero, List.set_cons_succ]))
                    refine wpAnyHIn_done (by kernel_rfl) ?_ _
                    clear hS
                    go_wp2_with fail
                    go_roundw
                    case rel =>
                      have el : (ins r L).length = t + (1 + (L.length - t)) := by rw [EI.out]; simp; omega
                      exact ⟨B + 1, hlt2, by go_num, Lib.hid (.inr ⟨_, cap8, by rw [RS2.out, el], by rw [RS2.out]; intro h; rw [h] at el; simp at el; omega, by rw [RS2.out, el]; exact c81, c82, by rw [RS2.out, el, EI.out]; exact RS8.out⟩), Lib.hid (GQ.out.trans (GZ5.out.trans G8.out))⟩
                    case measure => simp [intOf]; omega
                · have et : t = L.length := by omega
                  have EI := Lib.hid (ins_at ht HT.out (.inl et))
                  have k1 : ¬ (t : Int) < (L.length : Int) := by omega
                  clear et
                  go_wp2_with fail
                  refine (wpIn_wide (n := 3)).1 ?_
                  refine wpIn_region_held (fun w' => Gr wr w') 12 (by kernel_rfl) rfl rfl ?_
                  have hS : Gr wr wr.drew := (Gr.refl wr).drew
                  iterate 5 (first
                    | (refine wpAnyHIn_take 0 (v := ?_) rfl (by kernel_rfl) (by kernel_rfl) (by kernel_rfl) (by decide +kernel) (fun _ _ _ h => h) (fun _ _ _ => trivial) (by rfl) (fun w' hSw => ?_) hS ?_; rotate_left 1; (focus (skip; go_simp; try with_reducible rfl)); simp only [Act.put, List.setIfInBounds_toArray, List.set_cons_zero, List.set_cons_succ])
                    | (refine wpAnyHIn_take 1 (v := ?_) rfl (by kernel_rfl) (by kernel_rfl) (by kernel_rfl) (by decide +kernel) (fun _ _ _ h => h) (fun _ _ _ => trivial) (by rfl) (fun w' hSw => ?_) hS ?_; rotate_left 1; (focus (skip; go_simp; try with_reducible rfl)); simp only [Act.put, List.setIfInBounds_toArray, List.set_cons_zero, List.set_cons_succ])
                    | (refine wpAnyHIn_take 2 (v := ?_) rfl (by kernel_rfl) (by kernel_rfl) (by kernel_rfl) (by decide +kernel) (fun _ _ _ h => h) (fun _ _ _ => trivial) (by rfl) (fun w' hSw => ?_) hS ?_; rotate_left 1; (focus (skip; go_simp; try with_reducible rfl)); simp only [Act.put, List.setIfInBounds_toArray, List.set_cons_zero, List.set_cons_succ])
                    | (refine wpAnyHIn_take 3 (v := ?_) rfl (by kernel_rfl) (by kernel_rfl) (by kernel_rfl) (by decide +kernel) (fun _ _ _ h => h) (fun _ _ _ => trivial) (by rfl) (fun w' hSw => ?_) hS ?_; rotate_left 1; (focus (skip; go_simp; try with_reducible rfl)); simp only [Act.put, List.setIfInBounds_toArray, List.set_cons_zero, List.set_cons_succ])
                    | (refine wpAnyHIn_take 4 (v := ?_) rfl (by kernel_rfl) (by kernel_rfl) (by kernel_rfl) (by decide +kernel) (fun _ _ _ h => h) (fun _ _ _ => trivial) (by rfl) (fun w' hSw => ?_) hS ?_; rotate_left 1; (focus (skip; go_simp; try with_reducible rfl)); simp only [Act.put, List.setIfInBounds_toArray, List.set_cons_zero, List.set_cons_succ]))
                  iterate 6 (first
                    | (refine wpAnyHIn_skip 5 rfl (by kernel_rfl) (by kernel_rfl) (by kernel_rfl) (by decide +kernel) (fun _ _ _ h => h) (fun _ _ _ => trivial) (by rfl) hS ?_; simp only [Act.put, List.setIfInBounds_toArray, List.set_cons_zero, List.set_cons_succ])
                    | (refine wpAnyHIn_skip 6 rfl (by kernel_rfl) (by kernel_rfl) (by kernel_rfl) (by decide +kernel) (fun _ _ _ h => h) (fun _ _ _ => trivial) (by rfl) hS ?_; simp only [Act.put, List.setIfInBounds_toArray, List.set_cons_zero, List.set_cons_succ])
                    | (refine wpAnyHIn_skip 7 rfl (by kernel_rfl) (by kernel_rfl) (by kernel_rfl) (by decide +kernel) (fun _ _ _ h => h) (fun _ _ _ => trivial) (by rfl) hS ?_; simp only [Act.put, List.setIfInBounds_toArray, List.set_cons_zero, List.set_cons_succ])
                    | (refine wpAnyHIn_skip 8 rfl (by kernel_rfl) (by kernel_rfl) (by kernel_rfl) (by decide +kernel) (fun _ _ _ h => h) (fun _ _ _ => trivial) (by rfl) hS ?_; simp only [Act.put, List.setIfInBounds_toArray, List.set_cons_zero, List.set_cons_succ])
                    | (refine wpAnyHIn_skip 9 rfl (by kernel_rfl) (by kernel_rfl) (by kernel_rfl) (by decide +kernel) (fun _ _ _ h => h) (fun _ _ _ => trivial) (by rfl) hS ?_; simp only [Act.put, List.setIfInBounds_toArray, List.set_cons_zero, List.set_cons_succ])
                    | (refine wpAnyHIn_skip 10 rfl (by kernel_rfl) (by kernel_rfl) (by kernel_rfl) (by decide +kernel) (fun _ _ _ h => h) (fun _ _ _ => trivial) (by rfl) hS ?_; simp only [Act.put, List.setIfInBounds_toArray, List.set_cons_zero, List.set_cons_succ]))
                  iterate 1 (first
                    | (refine wpAnyHIn_take 11 (v := ?_) rfl (by kernel_rfl) (by kernel_rfl) (by kernel_rfl) (by decide +kernel) (fun _ _ _ h => h) (fun _ _ _ => trivial) (by rfl) (fun w' hSw => ?_) hS ?_; rotate_left 1; (focus (skip; go_simp; try with_reducible rfl)); simp only [Act.put, List.setIfInBounds_toArray, List.set_cons_zero, List.set_cons_succ]))
                  refine wpAnyHIn_done (by kernel_rfl) ?_ _
                  have GZ5 := Lib.hid (GZ.out.trans hS)
                  clear hS
                  generalize wr.drew = w5 at *
                  obtain ⟨q0, q1, _, _⟩ := BR.out.gr GZ5.out
                  go_wp2_with fail
                  have hl3 : t ≤ cl := by omega
                  have k3 : (t : Int) ≤ (cl : Int) := Int.ofNat_le.2 hl3
                  have k4 : (t : Int) ≤ (L.length : Int) := Int.ofNat_le.2 ht
                  have k5 : (L.length : Int) ≤ (cl : Int) := Int.ofNat_le.2 hl1
                  refine (wpIn_wide (n := 3)).1 ?_
                  refine wpIn_region_held (fun w' => Gr w5 w') 12 (by kernel_rfl) rfl rfl ?_
                  have hS : Gr w5 _ := (Gr.refl w5).drew
                  iterate 8 (first
                    | (refine wpAnyHIn_take 0 (v := ?_) rfl (by kernel_rfl) (by kernel_rfl) (by kernel_rfl) (by decide +kernel) (fun _ _ _ h => h) (fun _ _ _ => trivial) (by rfl) (fun w' hSw => ?_) hS ?_; rotate_left 1; (focus (have u0 := hSw.cell q0; have u1 := hSw.cell q1; go_simp; try with_reducible rfl)); simp only [Act.put, List.setIfInBounds_toArray, List.set_cons_zero, List.set_cons_succ])
                    | (refine wpAnyHIn_take 1 (v := ?_) rfl (by kernel_rfl) (by kernel_rfl) (by kernel_rfl) (by decide +kernel) (fun _ _ _ h => h) (fun _ _ _ => trivial) (by rfl) (fun w' hSw => ?_) hS ?_; rotate_left 1; (focus (have u0 := hSw.cell q0; have u1 := hSw.cell q1; go_simp; try with_reducible rfl)); simp only [Act.put, List.setIfInBounds_toArray, List.set_cons_zero, List.set_cons_succ])
                    | (refine wpAnyHIn_take 2 (v := ?_) rfl (by kernel_rfl) (by kernel_rfl) (by kernel_rfl) (by decide +kernel) (fun _ _ _ h => h) (fun _ _ _ => trivial) (by rfl) (fun w' hSw => ?_) hS ?_; rotate_left 1; (focus (have u0 := hSw.cell q0; have u1 := hSw.cell q1; go_simp; try with_reducible rfl)); simp only [Act.put, List.setIfInBounds_toArray, List.set_cons_zero, List.set_cons_succ])
                    | (refine wpAnyHIn_take 3 (v := ?_) rfl (by kernel_rfl) (by kernel_rfl) (by kernel_rfl) (by decide +kernel) (fun _ _ _ h => h) (fun _ _ _ => trivial) (by rfl) (fun w' hSw => ?_) hS ?_; rotate_left 1; (focus (have u0 := hSw.cell q0; have u1 := hSw.cell q1; go_simp; try with_reducible rfl)); simp only [Act.put, List.setIfInBounds_toArray, List.set_cons_zero, List.set_cons_succ])
                    | (refine wpAnyHIn_take 4 (v := ?_) rfl (by kernel_rfl) (by kernel_rfl) (by kernel_rfl) (by decide +kernel) (fun _ _ _ h => h) (fun _ _ _ => trivial) (by rfl) (fun w' hSw => ?_) hS ?_; rotate_left 1; (focus (have u0 := hSw.cell q0; have u1 := hSw.cell q1; go_simp; try with_reducible rfl)); simp only [Act.put, List.setIfInBounds_toArray, List.set_cons_zero, List.set_cons_succ])
                    | (refine wpAnyHIn_take 6 (v := ?_) rfl (by kernel_rfl) (by kernel_rfl) (by kernel_rfl) (by decide +kernel) (fun _ _ _ h => h) (fun _ _ _ => trivial) (by rfl) (fun w' hSw => ?_) hS ?_; rotate_left 1; (focus (have u0 := hSw.cell q0; have u1 := hSw.cell q1; go_simp; try with_reducible rfl)); simp only [Act.put, List.setIfInBounds_toArray, List.set_cons_zero, List.set_cons_succ])
                    | (refine wpAnyHIn_take 7 (v := ?_) rfl (by kernel_rfl) (by kernel_rfl) (by kernel_rfl) (by decide +kernel) (fun _ _ _ h => h) (fun _ _ _ => trivial) (by rfl) (fun w' hSw => ?_) hS ?_; rotate_left 1; (focus (have u0 := hSw.cell q0; have u1 := hSw.cell q1; go_simp; try with_reducible rfl)); simp only [Act.put, List.setIfInBounds_toArray, List.set_cons_zero, List.set_cons_succ])
                    | (refine wpAnyHIn_take 8 (v := ?_) rfl (by kernel_rfl) (by kernel_rfl) (by kernel_rfl) (by decide +kernel) (fun _ _ _ h => h) (fun _ _ _ => trivial) (by rfl) (fun w' hSw => ?_) hS ?_; rotate_left 1; (focus (have u0 := hSw.cell q0; have u1 := hSw.cell q1; go_simp; try with_reducible rfl)); simp only [Act.put, List.setIfInBounds_toArray, List.set_cons_zero, List.set_cons_succ]))
                  refine wpAnyHIn_ready [5] (by kernel_rfl) (by simp) ?_
                  refine AllHIn.cons rfl (by rfl) (fun K hK => ?_) AllHIn.nil
                  go_simp
                  have hS6 : Gr w5 (w5.alloc (.cells #[.int .i64 r.1, .int .i64 r.2] 27)).drew := ((Gr.refl w5).alloc _).drew
                  have B6 := Lib.hid (show Box2 (w5.alloc (.cells #[.int .i64 r.1, .int .i64 r.2] 27)).drew w5.heap.size r.1 r.2 from (Box2.new rfl).drew)
                  refine hK.out _ _ hS6 ?_
                  clear hK K
                  generalize (w5.alloc (.cells #[.int .i64 r.1, .int .i64 r.2] 27)).drew = w6 at *
                  obtain ⟨b7, cap7, w7, run7, g7, rd7⟩ := app1 (ty := 38) (c2 := cl - t) (rd_one B6.out) (rd_drop ((RD.out.gr GZ5.out).gr hS6) ht hl1) (by simp) (by omega)
                  refine wpAnyHIn_ready [9] (by kernel_rfl) (by simp) ?_
                  refine AllHIn.cons rfl (by rfl) (fun K hK => ?_) AllHIn.nil
                  refine wpIn_run (.tmp 63) (.tmp 66) 38 rfl rfl rfl run7 ?_
                  refine hK.out _ _ (hS6.trans g7) ?_
                  clear hK K
                  obtain ⟨cap8, w8, run8, c81, c82, g8, rd8⟩ := run_cat (ty := 38) (c2 := cap7) (rd_take ((RD.out.gr GZ5.out).gr (hS6.trans g7)) ht) (by simp; try omega) rd7 (by simp; try omega) (by omega) (by omega)
                  refine wpAnyHIn_ready [10] (by kernel_rfl) (by simp) ?_
                  refine AllHIn.cons rfl (by rfl) (fun K hK => ?_) AllHIn.nil
                  refine wpIn_run (.tmp 61) (.tmp 67) 38 rfl rfl rfl run8 ?_
                  refine hK.out _ _ ((hS6.trans g7).trans g8) ?_
                  clear hK K
                  have G8 := Lib.hid ((hS6.trans g7).trans g8)
                  have hS := G8.out
                  have RS8 := Lib.hid rd8
                  clear run7 run8 rd7 rd8 g7 g8 hS6 B6
                  iterate 1 (first
                    | (refine wpAnyHIn_take 11 (v := ?_) rfl (by kernel_rfl) (by kernel_rfl) (by kernel_rfl) (by decide +kernel) (fun _ _ _ h => h) (fun _ _ _ => trivial) (by rfl) (fun w' hSw => ?_) hS ?_; rotate_left 1; (focus (skip; go_simp; try with_reducible rfl)); simp only [Act.put, List.setIfInBounds_toArray, List.set_cons_zero, List.set_cons_succ]))
                  refine wpAnyHIn_done (by kernel_rfl) ?_ _
                  clear hS
                  go_wp2_with fail
                  go_roundw
                  case rel =>
                    have el : (ins r L).length = t + (1 + (L.length - t)) := by rw [EI.out]; simp; omega
                    exact ⟨B + 1, hlt2, by go_num, Lib.hid (.inr ⟨_, cap8, by rw [RS2.out, el], by rw [RS2.out]; intro h; rw [h] at el; simp at el; omega, by rw [RS2.out, el]; exact c81, c82, by rw [RS2.out, el, EI.out]; exact RS8.out⟩), Lib.hid (GQ.out.trans (GZ5.out.trans G8.out))⟩
                  case measure => simp [intOf]; omega
        · have eB : B = A := by omega
          have RN := Lib.hid (show RS wr _ (iso (sls X Y (prs X (A + 1)))) by have := RB.out; rw [eB] at this; exact this)
          have n1 : (A : Int) ≤ (B : Int) := by omega
          have GN := Lib.hid ((GA.out.trans GP.out).trans GB.out)
          clear eB hlt2
          go_wp2_with fail
          go_roundw
          case rel => exact ⟨A + 1, hlt, by go_num, RN, GN⟩
          case measure => simp [intOf]; omega
    · have eA : A = n := by omega
      have n1 : (n : Int) ≤ (A : Int) := by omega
      rw [eA] at RA
      have hne : sls X Y (prs X n) ≠ [] := fun e => prs_ne HV.out (List.map_eq_nil_iff.1 e)
      have LN : (iso (sls X Y (prs X n))).length < 200 := by
        have := prs_len X n n12
        rw [iso_length]
        unfold sls
        rw [List.length_map]
        omega
      have LP : 0 < (iso (sls X Y (prs X n))).length := by rw [iso_length]; exact List.length_pos_iff.2 hne
      have EM := Lib.hid (show md = (iso (sls X Y (prs X n))).getD (((iso (sls X Y (prs X n))).length - 1) / 2) (0, 0) by rw [iso_length]; exact HMD.out.symm)
      clear HMD hne
      generalize iso (sls X Y (prs X n)) = L at *
      rcases RA.out with ⟨rfl, hL⟩ | ⟨g, cl, rfl, hne, hl1, hl2, rd⟩
      · rw [hL] at LP; exact absurd LP (by simp)
      have k1 : (L.length - 1) / 2 < L.length := by omega
      obtain ⟨g', o', e, hc'⟩ := rd.at k1
      simp at e
      obtain ⟨rfl, rfl⟩ := e
      obtain ⟨s0, s1⟩ := hc' _ k1
      have ES := Lib.hid EM.out.symm
      unfold px at s0
      unfold py at s1
      rw [ES.out, Nat.zero_add] at s0 s1
      have q1 : IntKind.i64.wrap ((L.length : Int) - 1) = ((L.length - 1 : Nat) : Int) := by rw [IntWalk.i64_in _ (by omega)]; omega
      have q2 : IntKind.i64.wrap ((((L.length - 1 : Nat)) : Int) / 2) = (((L.length - 1) / 2 : Nat) : Int) := by rw [IntWalk.i64_in _ (by omega)]; omega
      have q3 : wrap64 ((((L.length - 1 : Nat)) : Int) / 2) = (((L.length - 1) / 2 : Nat) : Int) := by rw [IntWalk.wrap64_in _ (by omega)]; omega
      have k2 : (((L.length - 1) / 2 : Nat) : Int) < (L.length : Int) := Int.ofNat_lt.2 k1
      obtain ⟨p0, p1, p2, p3⟩ := B2.out.gr GA.out
      have HP := Lib.hid (show Box2 wr w.heap.size 0 0 from ⟨p0, p1, p2, p3⟩)
      have GF := Lib.hid (G0.out.trans GA.out)
      clear hc' rd RA EM ES hlt eA hl2
      generalize hkk : (L.length - 1) / 2 = kk at *
      generalize hll : L.length - 1 = ll at *
      clear hkk hll
      go_wp2_with fail
      obtain ⟨z0, z1, _, _⟩ := HP.out.put (x' := md.1) (y' := md.2)
      exact bodyPost_ret (v := .tuple #[.agg #[.int .i64 md.1, .int .i64 md.2], .int .i64 0]) (by simp [results, Try.results51, go_sem, z0, z1]) rfl ⟨rfl, (GF.out.setCell (by simp) _).setCell (by simp) _⟩

end Go.Proofs.Ytbhndfnfohoidaa
