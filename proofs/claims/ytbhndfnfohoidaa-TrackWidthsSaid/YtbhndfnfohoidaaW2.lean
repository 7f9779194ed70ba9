/- Contracts of the small functions of chapter 5: between, abs, size, rest, compare, Less, made, through, isPoint. -/
import Derived.Test.YtbhndfnfohoidaaW1
import Derived.Test.YtbhndfnfohoidaaP2
namespace Go.Proofs.Ytbhndfnfohoidaa
open Go.RowKit Go.Firn

def btw (a n b : Int) : Bool := decide (a ≤ n) && decide (n ≤ b)
theorem btw_true {a n b : Int} : btw a n b = true ↔ a ≤ n ∧ n ≤ b := by simp [btw]
theorem btw_false {a n b : Int} : btw a n b = false ↔ ¬ (a ≤ n ∧ n ≤ b) := by simp [btw]

theorem between_any (a n b : Int) (w : World) :
    Calls Try.prog 70 #[.int .i64 a, .int .i64 n, .int .i64 b] w fun e w' => e = .returned (.bool (btw a n b)) ∧ w = w' := by
  by_cases h1 : a ≤ n
  · have e : btw a n b = decide (n ≤ b) := by simp [btw, h1]
    go_enter Try.func70, Try.ntmps70
    go_wp2
    go_ret
    simp [e]
  · have e : btw a n b = false := by simp [btw, h1]
    have e' := Lib.hid e; clear e
    go_enter Try.func70, Try.ntmps70
    go_wp2
    go_ret
    simp [e'.out]

theorem abs_any (x : Int) (w : World) (h : Sz x) : Calls Try.prog 75 #[.int .i64 x] w fun e w' => e = .returned (.int .i64 (ab x)) ∧ w = w' := by
  have E := Lib.hid (ab_cases x)
  obtain ⟨h1, h2⟩ := h
  by_cases hp : 0 ≤ x
  · go_enter Try.func75, Try.ntmps75
    go_wp2
    go_ret
    refine ⟨?_, rfl⟩
    show Ending.returned (.int .i64 x) = _
    have := E.out
    rw [show ab x = x by omega]
  · go_enter Try.func75, Try.ntmps75
    go_wp2
    go_ret
    refine ⟨?_, rfl⟩
    show Ending.returned (.int .i64 (-x)) = _
    have := E.out
    rw [show ab x = -x by omega]
theorem size_any (x : Int) (w : World) (h : Sz x) : Calls Try.prog 88 #[.int .i64 x] w fun e w' => e = .returned (.int .i64 (ab x)) ∧ w = w' := by
  have E := Lib.hid (ab_cases x)
  obtain ⟨h1, h2⟩ := h
  by_cases hp : 0 ≤ x
  · go_enter Try.func88, Try.ntmps88
    go_wp2
    go_ret
    refine ⟨?_, rfl⟩
    show Ending.returned (.int .i64 x) = _
    have := E.out
    rw [show ab x = x by omega]
  · go_enter Try.func88, Try.ntmps88
    go_wp2
    go_ret
    refine ⟨?_, rfl⟩
    show Ending.returned (.int .i64 (-x)) = _
    have := E.out
    rw [show ab x = -x by omega]

/-- An int. -/
def RetI (x : Int) (w : World) (e : Ending) (w' : World) : Prop := e = .returned (.int .i64 x) ∧ Gr w w'
theorem rest_any (x y A B D : Int) (w : World) (h1 : InP x y) (h2 : InL A B D) :
    Calls Try.prog 67 #[.agg #[.int .i64 x, .int .i64 y], .agg #[.int .i64 A, .int .i64 B, .int .i64 D]] w (RetI (rs x y A B D) w) := by
  obtain ⟨a, b, c⟩ := rs_bd h1 h2
  have R := Lib.hid (show rs x y A B D = y * D - A * x - B from rfl)
  obtain ⟨⟨x1, x2⟩, y1, y2⟩ := h1
  obtain ⟨⟨A1, A2⟩, ⟨B1, B2⟩, D1, D2⟩ := h2
  unfold rs at c
  have q1 : wrap64 (y * D) = y * D := IntWalk.wrap64_in _ (by omega)
  have q2 : wrap64 (A * x) = A * x := IntWalk.wrap64_in _ (by omega)
  have q3 : wrap64 (y * D - A * x) = y * D - A * x := IntWalk.wrap64_in _ (by omega)
  have q4 : wrap64 (y * D - A * x - B) = y * D - A * x - B := IntWalk.wrap64_in _ (by omega)
  clear a b c x1 x2 y1 y2 A1 A2 B1 B2 D1 D2
  go_enter Try.func67, Try.ntmps67
  go_wp2_with fail
  go_ret
  rw [R.out]
  exact ⟨by show Ending.returned (.int .i64 (wrap64 (y * D - A * x - B))) = _; rw [q4], ((Gr.refl w).alloc _).alloc _⟩
theorem refrest_any (x y A B D : Int) (w : World) (h1 : InP x y) (h2 : InL A B D) :
    Calls Try.prog 69 #[.agg #[.int .i64 x, .int .i64 y], .agg #[.int .i64 A, .int .i64 B, .int .i64 D]] w (RetI (rs x y A B D) w) := by
  obtain ⟨a, b, c⟩ := rs_bd h1 h2
  have R := Lib.hid (show rs x y A B D = y * D - A * x - B from rfl)
  obtain ⟨⟨x1, x2⟩, y1, y2⟩ := h1
  obtain ⟨⟨A1, A2⟩, ⟨B1, B2⟩, D1, D2⟩ := h2
  unfold rs at c
  have q1 : wrap64 (y * D) = y * D := IntWalk.wrap64_in _ (by omega)
  have q2 : wrap64 (A * x) = A * x := IntWalk.wrap64_in _ (by omega)
  have q3 : wrap64 (y * D - A * x) = y * D - A * x := IntWalk.wrap64_in _ (by omega)
  have q4 : wrap64 (y * D - A * x - B) = y * D - A * x - B := IntWalk.wrap64_in _ (by omega)
  clear a b c x1 x2 y1 y2 A1 A2 B1 B2 D1 D2
  go_enter Try.func69, Try.ntmps69
  go_wp2_with fail
  go_ret
  rw [R.out]
  exact ⟨by show Ending.returned (.int .i64 (wrap64 (y * D - A * x - B))) = _; rw [q4], ((Gr.refl w).alloc _).alloc _⟩

theorem isNaN_any (x : Int) (w : World) : Calls Try.prog 104 #[.int .i64 x] w fun e w' => e = .returned (.bool false) ∧ w' = w := by
  go_enter Try.func104, Try.ntmps104
  go_wp2
  go_ret
  exact ⟨rfl, rfl⟩

/-- The sign of a comparison. -/
def cmpI (x y : Int) : Int := if x < y then -1 else if y < x then 1 else 0
theorem Compare_any (x y : Int) (w : World) : Calls Try.prog 96 #[.int .i64 x, .int .i64 y] w fun e w' => e = .returned (.int .i64 (cmpI x y)) ∧ w = w' := by
  rcases Int.lt_trichotomy x y with h | h | h
  · have e : cmpI x y = -1 := by simp [cmpI, h]
    rw [e]
    have d1 : decide (x < y) = true := by simp; omega
    go_enter Try.func96, Try.ntmps96
    go_wp2_with (go_at_call 104; refine (isNaN_any _ _).mono ?_; rintro e w1 ⟨rfl, rfl⟩)
    go_ret
    exact ⟨rfl, rfl⟩
  · have e : cmpI x y = 0 := by simp [cmpI, h]
    rw [e]
    have d1 : decide (x < y) = false := by simp; omega
    have d2 : decide (y < x) = false := by simp; omega
    clear h
    go_enter Try.func96, Try.ntmps96
    go_wp2_with (go_at_call 104; refine (isNaN_any _ _).mono ?_; rintro e w1 ⟨rfl, rfl⟩)
    go_ret
    exact ⟨rfl, rfl⟩
  · have e : cmpI x y = 1 := by simp [cmpI, h]; omega
    rw [e]
    have d1 : decide (x < y) = false := by simp; omega
    have d2 : decide (y < x) = true := by simp; omega
    clear h
    go_enter Try.func96, Try.ntmps96
    go_wp2_with (go_at_call 104; refine (isNaN_any _ _).mono ?_; rintro e w1 ⟨rfl, rfl⟩)
    go_ret
    exact ⟨rfl, rfl⟩

theorem compare_any (N D N' D' : Int) (w : World) (h1 : Sz (N * D')) (h2 : Sz (N' * D)) :
    Calls Try.prog 85 #[.agg #[.int .i64 N, .int .i64 D], .agg #[.int .i64 N', .int .i64 D']] w (RetI (cmpI (N * D') (N' * D)) w) := by
  have q1 : wrap64 (N * D') = N * D' := IntWalk.wrap64_in _ (by unfold Sz at h1; omega)
  have q2 : wrap64 (N' * D) = N' * D := IntWalk.wrap64_in _ (by unfold Sz at h2; omega)
  clear h1 h2
  go_enter Try.func85, Try.ntmps85
  go_wp2_with (go_at_call 96; refine (Compare_any _ _ _).mono ?_; rintro e w1 ⟨rfl, rfl⟩)
  go_ret
  exact ⟨rfl, ((Gr.refl w).alloc _).alloc _⟩
theorem refLess_any (N D N' D' : Int) (w : World) (h1 : Sz (N * D')) (h2 : Sz (N' * D)) :
    Calls Try.prog 46 #[.agg #[.int .i64 N, .int .i64 D], .agg #[.int .i64 N', .int .i64 D']] w (RetB (decide (N * D' < N' * D)) w) := by
  have q1 : IntKind.i64.wrap (N * D') = N * D' := IntWalk.i64_in _ (by unfold Sz at h1; omega)
  have q2 : IntKind.i64.wrap (N' * D) = N' * D := IntWalk.i64_in _ (by unfold Sz at h2; omega)
  clear h1 h2
  go_enter Try.func46, Try.ntmps46
  go_wp2_with fail
  go_ret
  exact ⟨rfl, ((Gr.refl w).alloc _).alloc _⟩

/-- A line. -/
def RetL (A B D : Int) (w : World) (e : Ending) (w' : World) : Prop := e = .returned (.agg #[.int .i64 A, .int .i64 B, .int .i64 D]) ∧ Gr w w'

theorem made_any (a b d : Int) (w : World) (ha : Sz a) (hb : Sz b) (hd : Sz d) (h0 : d ≠ 0) :
    Calls Try.prog 94 #[.int .i64 a, .int .i64 b, .int .i64 d] w (RetL (mkA a b d) (mkB a b d) (mkD a b d) w) := by
  obtain ⟨p1, p2, p3⟩ := mk_abs a b h0
  have q1 := mkA_tdiv a b d
  have q2 := mkB_tdiv a b d
  have q3 := mkD_tdiv a b d
  have r1 : wrap64 (mkA a b d) = mkA a b d := IntWalk.wrap64_in _ (by unfold Sz at ha; omega)
  have r2 : wrap64 (mkB a b d) = mkB a b d := IntWalk.wrap64_in _ (by unfold Sz at hb; omega)
  have r3 : wrap64 (mkD a b d) = mkD a b d := IntWalk.wrap64_in _ (by unfold Sz at hd; omega)
  have gn := gk_ne a b h0
  have gp := g3_pos a b h0
  have sg : Sz (Int.gcd a b : Int) := by
    have h := Int.gcd_dvd_left a b
    by_cases e : a = 0
    · subst e; rw [Int.gcd_zero_left]; unfold Sz at hb ⊢; omega
    · have := Int.le_of_dvd (show 0 < (a.natAbs : Int) by omega) (Int.dvd_natAbs.2 h)
      unfold Sz at ha ⊢; omega
  have s3 : (Int.gcd (Int.gcd a b) d : Int) ≤ 4611686018427387904 := by
    have := Int.le_of_dvd (show 0 < (d.natAbs : Int) by omega) (Int.dvd_natAbs.2 (Int.gcd_dvd_right (Int.gcd a b : Int) d))
    unfold Sz at hd; omega
  have GK := Lib.hid (show gk a b d = if d < 0 then -(Int.gcd (Int.gcd a b) d : Int) else (Int.gcd (Int.gcd a b) d : Int) from rfl)
  have C1 := Lib.hid (fun w' => divisor_any a b w' ha hb)
  have C2 := Lib.hid (fun w' => divisor_any (Int.gcd a b) d w' sg hd)
  clear ha hb hd sg p1 p2 p3
  by_cases hn : d < 0
  · have gk' : -(Int.gcd (Int.gcd a b) d : Int) = gk a b d := by rw [GK.out, if_pos hn]
    generalize gk a b d = k at *
    go_enter Try.func94, Try.ntmps94
    go_wp2_with (first
      | (go_at_call 91; (with_reducible refine (C1.out _).mono ?_); rintro e w1 ⟨rfl, m1, rfl⟩)
      | (go_at_call 91; (with_reducible refine (C2.out _).mono ?_); rintro e w1 ⟨rfl, m2, rfl⟩))
    go_region
    all_goals go_wp2_with fail
    exact bodyPost_ret (v := .agg #[.int .i64 (mkA a b d), .int .i64 (mkB a b d), .int .i64 (mkD a b d)]) (by simp [results, Try.results94, go_sem]) rfl
      ⟨rfl, (((((Gr.refl w).alloc _).drewN _).setCell (Nat.le_refl _) _).setCell (Nat.le_refl _) _).setCell (Nat.le_refl _) _⟩
  · have gk' : (Int.gcd (Int.gcd a b) d : Int) = gk a b d := by rw [GK.out, if_neg hn]
    rw [gk'] at C2 s3
    clear gk'
    generalize gk a b d = k at *
    go_enter Try.func94, Try.ntmps94
    go_wp2_with (first
      | (go_at_call 91; (with_reducible refine (C1.out _).mono ?_); rintro e w1 ⟨rfl, m1, rfl⟩)
      | (go_at_call 91; (with_reducible refine (C2.out _).mono ?_); rintro e w1 ⟨rfl, m2, rfl⟩))
    go_region
    all_goals go_wp2_with fail
    exact bodyPost_ret (v := .agg #[.int .i64 (mkA a b d), .int .i64 (mkB a b d), .int .i64 (mkD a b d)]) (by simp [results, Try.results94, go_sem]) rfl
      ⟨rfl, (((((Gr.refl w).alloc _).drewN _).setCell (Nat.le_refl _) _).setCell (Nat.le_refl _) _).setCell (Nat.le_refl _) _⟩

end Go.Proofs.Ytbhndfnfohoidaa
