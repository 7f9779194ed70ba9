/- Contracts of chapter 5: the line through two points, of the program and of the reference; points in range. -/
import Derived.Test.YtbhndfnfohoidaaW2
namespace Go.Proofs.Ytbhndfnfohoidaa
open Go.RowKit Go.Firn

theorem through_any (x1 y1 x2 y2 : Int) (w : World) (h1 : InP x1 y1) (h2 : InP x2 y2) (hx : x1 ≠ x2) :
    Calls Try.prog 82 #[.agg #[.int .i64 x1, .int .i64 y1], .agg #[.int .i64 x2, .int .i64 y2]] w (RetL (thA x1 y1 x2 y2) (thB x1 y1 x2 y2) (thD x1 y1 x2 y2) w) := by
  obtain ⟨a, b, c⟩ := rw_bd h1 h2
  have C := Lib.hid (fun w' => made_any (rwA x1 y1 x2 y2) (rwB x1 y1 x2 y2) (rwD x1 y1 x2 y2) w' (by unfold Sz; omega) (by unfold Sz; omega) (by unfold Sz; omega) (by unfold rwD; omega))
  have C' : Hid (∀ w', Calls Try.prog 94 #[.int .i64 (y2 - y1), .int .i64 (y1 * (x2 - x1) - (y2 - y1) * x1), .int .i64 (x2 - x1)] w' (RetL (thA x1 y1 x2 y2) (thB x1 y1 x2 y2) (thD x1 y1 x2 y2) w')) := C
  obtain ⟨⟨a1, a2⟩, a3, a4⟩ := h1
  obtain ⟨⟨b1, b2⟩, b3, b4⟩ := h2
  unfold rwA at a
  unfold rwB at b
  have m1 := mul_bd (a := y1) (b := x2 - x1) (A := 1000) (B := 200) (by omega) (by omega) (by omega) (by omega)
  have m2 := mul_bd (a := y2 - y1) (b := x1) (A := 2000) (B := 100) (by omega) (by omega) (by omega) (by omega)
  have q1 : wrap64 (y1 * (x2 - x1)) = y1 * (x2 - x1) := IntWalk.wrap64_in _ (by omega)
  have q2 : wrap64 ((y2 - y1) * x1) = (y2 - y1) * x1 := IntWalk.wrap64_in _ (by omega)
  have q3 : wrap64 (y1 * (x2 - x1) - (y2 - y1) * x1) = y1 * (x2 - x1) - (y2 - y1) * x1 := IntWalk.wrap64_in _ (by omega)
  have q4 : wrap64 (y2 - y1) = y2 - y1 := IntWalk.wrap64_in _ (by omega)
  have q5 : wrap64 (x2 - x1) = x2 - x1 := IntWalk.wrap64_in _ (by omega)
  clear a b c C m1 m2 a1 a2 a3 a4 b1 b2 b3 b4 hx
  go_enter Try.func82, Try.ntmps82
  go_wp2_with (go_at_call 94; (with_reducible refine (C'.out _).mono ?_); rintro e w1 ⟨rfl, g1⟩; obtain ⟨c0, f0⟩ := g1.fresh' (b := w.heap.size + 1 + 1) (j := 0) (v := .int .i64 0) (by simp) rfl; obtain ⟨c1, f1⟩ := g1.fresh' (b := w.heap.size + 1 + 1) (j := 1) (v := .int .i64 0) (by simp) rfl; obtain ⟨c2, f2⟩ := g1.fresh' (b := w.heap.size + 1 + 1) (j := 2) (v := .int .i64 0) (by simp) rfl)
  have G : Gr w w1 := (((Gr.refl w).alloc _).alloc _).trans (((Gr.refl _).alloc _).trans g1)
  exact bodyPost_ret (v := .agg #[.int .i64 (thA x1 y1 x2 y2), .int .i64 (thB x1 y1 x2 y2), .int .i64 (thD x1 y1 x2 y2)]) (by simp [results, Try.results82, go_sem, c0, c1, c2]) rfl
    ⟨rfl, ((G.setCell (Nat.le_add_right_of_le (Nat.le_add_right _ _)) _).setCell (Nat.le_add_right_of_le (Nat.le_add_right _ _)) _).setCell (Nat.le_add_right_of_le (Nat.le_add_right _ _)) _⟩

theorem g3_eq {d : Int} (a b : Int) (hd : 0 < d) : (Int.gcd (Int.gcd d a : Int) b : Int) = gk a b d := by
  unfold gk
  rw [if_neg (by omega)]
  congr 1
  unfold Int.gcd
  simp only [Int.natAbs_natCast]
  rw [Nat.gcd_assoc, Nat.gcd_comm d.natAbs]

set_option maxHeartbeats 1000000 in
theorem refthrough_any (x1 y1 x2 y2 : Int) (w : World) (h1 : InP x1 y1) (h2 : InP x2 y2) (hx : x1 ≠ x2) :
    Calls Try.prog 61 #[.agg #[.int .i64 x1, .int .i64 y1], .agg #[.int .i64 x2, .int .i64 y2]] w (RetL (thA x1 y1 x2 y2) (thB x1 y1 x2 y2) (thD x1 y1 x2 y2) w) := by
  rcases Int.lt_or_gt_of_ne hx with hx | hx
  · obtain ⟨a, b, c⟩ := rw_bd h1 h2
    have hd : 0 < rwD x1 y1 x2 y2 := by unfold rwD; omega
    have hd0 : rwD x1 y1 x2 y2 ≠ 0 := by omega
    have G3 := Lib.hid (g3_eq (rwA x1 y1 x2 y2) (rwB x1 y1 x2 y2) hd)
    obtain ⟨p1, p2, p3⟩ := mk_abs (rwA x1 y1 x2 y2) (rwB x1 y1 x2 y2) hd0
    have q1 : (y2 - y1).tdiv (gk (rwA x1 y1 x2 y2) (rwB x1 y1 x2 y2) (rwD x1 y1 x2 y2)) = thA x1 y1 x2 y2 := mkA_tdiv (rwA x1 y1 x2 y2) (rwB x1 y1 x2 y2) (rwD x1 y1 x2 y2)
    have q2 : (y1 * (x2 - x1) - (y2 - y1) * x1).tdiv (gk (rwA x1 y1 x2 y2) (rwB x1 y1 x2 y2) (rwD x1 y1 x2 y2)) = thB x1 y1 x2 y2 := mkB_tdiv (rwA x1 y1 x2 y2) (rwB x1 y1 x2 y2) (rwD x1 y1 x2 y2)
    have q3 : (x2 - x1).tdiv (gk (rwA x1 y1 x2 y2) (rwB x1 y1 x2 y2) (rwD x1 y1 x2 y2)) = thD x1 y1 x2 y2 := mkD_tdiv (rwA x1 y1 x2 y2) (rwB x1 y1 x2 y2) (rwD x1 y1 x2 y2)
    have gk0 : gk (rwA x1 y1 x2 y2) (rwB x1 y1 x2 y2) (rwD x1 y1 x2 y2) ≠ 0 := gk_ne _ _ hd0
    have r1 : wrap64 (thA x1 y1 x2 y2) = thA x1 y1 x2 y2 := IntWalk.wrap64_in _ (by unfold thA; omega)
    have r2 : wrap64 (thB x1 y1 x2 y2) = thB x1 y1 x2 y2 := IntWalk.wrap64_in _ (by unfold thB; omega)
    have r3 : wrap64 (thD x1 y1 x2 y2) = thD x1 y1 x2 y2 := IntWalk.wrap64_in _ (by unfold thD; omega)
    have C1 := Lib.hid (show ∀ w', Calls Try.prog 81 #[.int .i64 (x2 - x1), .int .i64 (y2 - y1)] w' fun e w'' => e = .returned (.int .i64 (Int.gcd (rwD x1 y1 x2 y2) (rwA x1 y1 x2 y2))) ∧ ∃ m, w'' = w'.drewN m from fun w' => gcd_any (rwD x1 y1 x2 y2) (rwA x1 y1 x2 y2) w' (by unfold Sz; omega) (by unfold Sz; omega))
    have sg : Sz (Int.gcd (rwD x1 y1 x2 y2) (rwA x1 y1 x2 y2) : Int) := by
      have := Int.le_of_dvd hd (Int.gcd_dvd_left (rwD x1 y1 x2 y2) (rwA x1 y1 x2 y2))
      unfold Sz; omega
    have C2 := Lib.hid (show ∀ w', Calls Try.prog 81 #[.int .i64 (Int.gcd (rwD x1 y1 x2 y2) (rwA x1 y1 x2 y2)), .int .i64 (y1 * (x2 - x1) - (y2 - y1) * x1)] w' fun e w'' => e = .returned (.int .i64 (gk (rwA x1 y1 x2 y2) (rwB x1 y1 x2 y2) (rwD x1 y1 x2 y2))) ∧ ∃ m, w'' = w'.drewN m from fun w' => by have := gcd_any (Int.gcd (rwD x1 y1 x2 y2) (rwA x1 y1 x2 y2)) (rwB x1 y1 x2 y2) w' sg (by unfold Sz; omega); rw [G3.out] at this; exact this)
    generalize gk (rwA x1 y1 x2 y2) (rwB x1 y1 x2 y2) (rwD x1 y1 x2 y2) = k at *
    generalize (Int.gcd (rwD x1 y1 x2 y2) (rwA x1 y1 x2 y2) : Int) = g at *
    unfold rwA at a
    unfold rwB at b
    unfold rwD at c
    obtain ⟨⟨a1, a2⟩, a3, a4⟩ := h1
    obtain ⟨⟨b1, b2⟩, b3, b4⟩ := h2
    have m1 := mul_bd (a := y1) (b := x2 - x1) (A := 1000) (B := 200) (by omega) (by omega) (by omega) (by omega)
    have m2 := mul_bd (a := y2 - y1) (b := x1) (A := 2000) (B := 100) (by omega) (by omega) (by omega) (by omega)
    have e1 : wrap64 (y1 * (x2 - x1)) = y1 * (x2 - x1) := IntWalk.wrap64_in _ (by omega)
    have e2 : wrap64 ((y2 - y1) * x1) = (y2 - y1) * x1 := IntWalk.wrap64_in _ (by omega)
    have e3 : wrap64 (y1 * (x2 - x1) - (y2 - y1) * x1) = y1 * (x2 - x1) - (y2 - y1) * x1 := IntWalk.wrap64_in _ (by omega)
    have e4 : wrap64 (y2 - y1) = y2 - y1 := IntWalk.wrap64_in _ (by omega)
    have e5 : wrap64 (x2 - x1) = x2 - x1 := IntWalk.wrap64_in _ (by omega)
    have SW := Lib.hid (show thA x1 y1 x2 y2 = thA x1 y1 x2 y2 ∧ thB x1 y1 x2 y2 = thB x1 y1 x2 y2 ∧ thD x1 y1 x2 y2 = thD x1 y1 x2 y2 from ⟨rfl, rfl, rfl⟩)
    have hx' : ¬ x2 < x1 := by omega
    clear a b c m1 m2 a1 a2 a3 a4 b1 b2 b3 b4 p1 p2 p3 hd hd0 sg G3 hx
    go_enter Try.func61, Try.ntmps61
    go_wp2_with fail
    go_quiet ((first | (go_at_call 81; with_reducible exact Calls.quiet_of (C1.out _)) | (go_at_call 81; with_reducible exact Calls.quiet_of (C2.out _))))
    go_wp2_with fail
    go_region
    all_goals go_wp2_with fail
    refine bodyPost_ret (v := .agg #[.int .i64 (thA x1 y1 x2 y2), .int .i64 (thB x1 y1 x2 y2), .int .i64 (thD x1 y1 x2 y2)]) (by simp [results, Try.results61, go_sem]) rfl ⟨rfl, ?_⟩
    repeat (first | exact Gr.refl _ | refine Gr.alloc ?_ _ | refine Gr.drewN ?_ _ | refine Gr.drew ?_ | refine Gr.setCell ?_ (by simp; omega) _ | refine Gr.setCell ?_ (by simp) _)
  · obtain ⟨a, b, c⟩ := rw_bd h2 h1
    have hd : 0 < rwD x2 y2 x1 y1 := by unfold rwD; omega
    have hd0 : rwD x2 y2 x1 y1 ≠ 0 := by omega
    have G3 := Lib.hid (g3_eq (rwA x2 y2 x1 y1) (rwB x2 y2 x1 y1) hd)
    obtain ⟨p1, p2, p3⟩ := mk_abs (rwA x2 y2 x1 y1) (rwB x2 y2 x1 y1) hd0
    have q1 : (y1 - y2).tdiv (gk (rwA x2 y2 x1 y1) (rwB x2 y2 x1 y1) (rwD x2 y2 x1 y1)) = thA x2 y2 x1 y1 := mkA_tdiv (rwA x2 y2 x1 y1) (rwB x2 y2 x1 y1) (rwD x2 y2 x1 y1)
    have q2 : (y2 * (x1 - x2) - (y1 - y2) * x2).tdiv (gk (rwA x2 y2 x1 y1) (rwB x2 y2 x1 y1) (rwD x2 y2 x1 y1)) = thB x2 y2 x1 y1 := mkB_tdiv (rwA x2 y2 x1 y1) (rwB x2 y2 x1 y1) (rwD x2 y2 x1 y1)
    have q3 : (x1 - x2).tdiv (gk (rwA x2 y2 x1 y1) (rwB x2 y2 x1 y1) (rwD x2 y2 x1 y1)) = thD x2 y2 x1 y1 := mkD_tdiv (rwA x2 y2 x1 y1) (rwB x2 y2 x1 y1) (rwD x2 y2 x1 y1)
    have gk0 : gk (rwA x2 y2 x1 y1) (rwB x2 y2 x1 y1) (rwD x2 y2 x1 y1) ≠ 0 := gk_ne _ _ hd0
    have r1 : wrap64 (thA x2 y2 x1 y1) = thA x2 y2 x1 y1 := IntWalk.wrap64_in _ (by unfold thA; omega)
    have r2 : wrap64 (thB x2 y2 x1 y1) = thB x2 y2 x1 y1 := IntWalk.wrap64_in _ (by unfold thB; omega)
    have r3 : wrap64 (thD x2 y2 x1 y1) = thD x2 y2 x1 y1 := IntWalk.wrap64_in _ (by unfold thD; omega)
    have C1 := Lib.hid (show ∀ w', Calls Try.prog 81 #[.int .i64 (x1 - x2), .int .i64 (y1 - y2)] w' fun e w'' => e = .returned (.int .i64 (Int.gcd (rwD x2 y2 x1 y1) (rwA x2 y2 x1 y1))) ∧ ∃ m, w'' = w'.drewN m from fun w' => gcd_any (rwD x2 y2 x1 y1) (rwA x2 y2 x1 y1) w' (by unfold Sz; omega) (by unfold Sz; omega))
    have sg : Sz (Int.gcd (rwD x2 y2 x1 y1) (rwA x2 y2 x1 y1) : Int) := by
      have := Int.le_of_dvd hd (Int.gcd_dvd_left (rwD x2 y2 x1 y1) (rwA x2 y2 x1 y1))
      unfold Sz; omega
    have C2 := Lib.hid (show ∀ w', Calls Try.prog 81 #[.int .i64 (Int.gcd (rwD x2 y2 x1 y1) (rwA x2 y2 x1 y1)), .int .i64 (y2 * (x1 - x2) - (y1 - y2) * x2)] w' fun e w'' => e = .returned (.int .i64 (gk (rwA x2 y2 x1 y1) (rwB x2 y2 x1 y1) (rwD x2 y2 x1 y1))) ∧ ∃ m, w'' = w'.drewN m from fun w' => by have := gcd_any (Int.gcd (rwD x2 y2 x1 y1) (rwA x2 y2 x1 y1)) (rwB x2 y2 x1 y1) w' sg (by unfold Sz; omega); rw [G3.out] at this; exact this)
    generalize gk (rwA x2 y2 x1 y1) (rwB x2 y2 x1 y1) (rwD x2 y2 x1 y1) = k at *
    generalize (Int.gcd (rwD x2 y2 x1 y1) (rwA x2 y2 x1 y1) : Int) = g at *
    unfold rwA at a
    unfold rwB at b
    unfold rwD at c
    obtain ⟨⟨a1, a2⟩, a3, a4⟩ := h2
    obtain ⟨⟨b1, b2⟩, b3, b4⟩ := h1
    have m1 := mul_bd (a := y2) (b := x1 - x2) (A := 1000) (B := 200) (by omega) (by omega) (by omega) (by omega)
    have m2 := mul_bd (a := y1 - y2) (b := x2) (A := 2000) (B := 100) (by omega) (by omega) (by omega) (by omega)
    have e1 : wrap64 (y2 * (x1 - x2)) = y2 * (x1 - x2) := IntWalk.wrap64_in _ (by omega)
    have e2 : wrap64 ((y1 - y2) * x2) = (y1 - y2) * x2 := IntWalk.wrap64_in _ (by omega)
    have e3 : wrap64 (y2 * (x1 - x2) - (y1 - y2) * x2) = y2 * (x1 - x2) - (y1 - y2) * x2 := IntWalk.wrap64_in _ (by omega)
    have e4 : wrap64 (y1 - y2) = y1 - y2 := IntWalk.wrap64_in _ (by omega)
    have e5 : wrap64 (x1 - x2) = x1 - x2 := IntWalk.wrap64_in _ (by omega)
    have SW := Lib.hid (show thA x2 y2 x1 y1 = thA x1 y1 x2 y2 ∧ thB x2 y2 x1 y1 = thB x1 y1 x2 y2 ∧ thD x2 y2 x1 y1 = thD x1 y1 x2 y2 from th_swap (by omega))
    have hx' : x2 < x1 := hx
    clear a b c m1 m2 a1 a2 a3 a4 b1 b2 b3 b4 p1 p2 p3 hd hd0 sg G3 hx
    go_enter Try.func61, Try.ntmps61
    go_wp2_with fail
    go_quiet ((first | (go_at_call 81; with_reducible exact Calls.quiet_of (C1.out _)) | (go_at_call 81; with_reducible exact Calls.quiet_of (C2.out _))))
    go_wp2_with fail
    go_region
    all_goals go_wp2_with fail
    rw [← SW.out.1, ← SW.out.2.1, ← SW.out.2.2]
    refine bodyPost_ret (v := .agg #[.int .i64 (thA x2 y2 x1 y1), .int .i64 (thB x2 y2 x1 y1), .int .i64 (thD x2 y2 x1 y1)]) (by simp [results, Try.results61, go_sem]) rfl ⟨rfl, ?_⟩
    repeat (first | exact Gr.refl _ | refine Gr.alloc ?_ _ | refine Gr.drewN ?_ _ | refine Gr.drew ?_ | refine Gr.setCell ?_ (by simp; omega) _ | refine Gr.setCell ?_ (by simp) _)

end Go.Proofs.Ytbhndfnfohoidaa
