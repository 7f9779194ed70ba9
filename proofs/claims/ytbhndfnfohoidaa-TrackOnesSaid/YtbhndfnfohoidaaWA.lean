/- Contracts of chapter 5: the greatest common divisor and the fraction in lowest terms, of the program and of the reference. Contracts of the small functions of chapter 5: between, abs, size, rest, compare, Less, made, through, isPoint. Contracts of chapter 5: the line through two points, of the program and of the reference; points in range. Contracts of chapter 5: points in range, and whether some point is so; which points are valid, of the program and of the reference. Contracts of chapter 5: which points are valid, of the reference; Long. -/
import Derived.Test.YtbhndfnfohoidaaRows
import Derived.Test.YtbhndfnfohoidaaProg
import Derived.Test.YtbhndfnfohoidaaQB
import Derived.Test.YtbhndfnfohoidaaQA
import Derived.Deep.QuietTactic
import Derived.BigQuiet
import Derived.BigRegion
import Derived.Laws.EntriesVeiled
namespace Go.Proofs.Ytbhndfnfohoidaa
open Go.RowKit Go.Firn

theorem drewN_more {w wr : World} (h : ∃ m, wr = w.drewN m) (k : Nat) : ∃ m, wr.drewN k = w.drewN m := by
  obtain ⟨m, rfl⟩ := h; exact ⟨_, World.drewN_drewN _ _ _⟩

def RetDI (v : Int) (w : World) (e : Ending) (w' : World) : Prop := e = .returned (.int .i64 v) ∧ ∃ m, w' = w.drewN m
/-- A ratio. -/
def RetR (n d : Int) (w : World) (e : Ending) (w' : World) : Prop := e = .returned (.agg #[.int .i64 n, .int .i64 d]) ∧ Gr w w'
/-- A ratio and an error. -/
def RetRE (n d err : Int) (w : World) (e : Ending) (w' : World) : Prop := e = .returned (.tuple #[.agg #[.int .i64 n, .int .i64 d], .int .i64 err]) ∧ Gr w w'

/-- The size that a walk bears. -/
def Sz (a : Int) : Prop := -4611686018427387904 ≤ a ∧ a ≤ 4611686018427387904
theorem Sz.of {a : Int} (h1 : -4611686018427387904 ≤ a) (h2 : a ≤ 4611686018427387904) : Sz a := ⟨h1, h2⟩

theorem sz_tmod {a b : Int} (ha : Sz a) : Sz (a.tmod b) := by
  have h := Int.natAbs_tmod a b
  have h2 := Nat.mod_le a.natAbs b.natAbs
  unfold Sz at *
  omega

theorem gcd_any (a b : Int) (w : World) (ha : Sz a) (hb : Sz b) :
    Calls Try.prog 81 #[.int .i64 a, .int .i64 b] w (RetDI (Int.gcd a b) w) := by
  have Ha := Lib.hid ha
  have Hb := Lib.hid hb
  clear ha hb
  go_enter Try.func81, Try.ntmps81
  go_wp2
  go_loopw [0, 1] (fun x y wr => ∃ a' b' : Int, x = .int .i64 a' ∧ y = .int .i64 b' ∧ Hid (Sz a') ∧ Hid (Sz b') ∧ Hid (Int.gcd a' b' = Int.gcd a b) ∧ Hid (∃ m, wr = w.drewN m)) (fun _ y _ => (intOf y).natAbs)
  case atStart => exact ⟨a, b, rfl, rfl, Ha, Hb, rfl, 0, rfl⟩
  case round =>
    obtain ⟨a', b', rfl, rfl, h1, h2, h3, hm⟩ := hrel
    by_cases h0 : b' = 0
    · subst h0
      have E := Lib.hid (show (a'.natAbs : Int) = Int.gcd a b by rw [← h3.out, Int.gcd_zero_right])
      obtain ⟨l1, l2⟩ := h1.out
      by_cases hp : 0 ≤ a'
      · go_wp2
        go_ret
        refine ⟨?_, hm.out⟩
        rw [← E.out]
        show Ending.returned (.int .i64 a') = _
        rw [show (a'.natAbs : Int) = a' by omega]
      · go_wp2
        go_ret
        refine ⟨?_, hm.out⟩
        rw [← E.out]
        show Ending.returned (.int .i64 (-a')) = _
        rw [show (a'.natAbs : Int) = -a' by omega]
    · have t1 : (b' != 0) = true := by simp [h0]
      go_wp2
      go_quiet (fail)
      go_wp2
      go_roundw
      case rel => exact ⟨b', a'.tmod b', rfl, rfl, h2, sz_tmod h1.out, (gcd_step a' b').trans h3.out, drewN_more hm.out _⟩
      case measure => exact tmod_bd a' h0

theorem tmod_nonneg {a b : Int} (ha : 0 ≤ a) : 0 ≤ a.tmod b := by
  rw [Int.tmod_eq_emod_of_nonneg ha]
  by_cases h : b = 0
  · rw [h, Int.emod_zero]; exact ha
  · exact Int.emod_nonneg _ h

theorem max_abs (a : Int) : max a (-a) = (a.natAbs : Int) := by omega
theorem divisor_any (a b : Int) (w : World) (ha : Sz a) (hb : Sz b) :
    Calls Try.prog 91 #[.int .i64 a, .int .i64 b] w (RetDI (Int.gcd a b) w) := by
  obtain ⟨l1, l2⟩ := ha
  obtain ⟨l3, l4⟩ := hb
  have N := Lib.hid (show Int.gcd (a.natAbs : Int) (b.natAbs : Int) = Int.gcd a b from rfl)
  have Sa := Lib.hid (show Sz (a.natAbs : Int) from ⟨by omega, by omega⟩)
  have Sb := Lib.hid (show Sz (b.natAbs : Int) from ⟨by omega, by omega⟩)
  have C := Lib.hid (show ∀ x y : Int, Sz x → Sz y → 0 ≤ x → 0 ≤ y → True from fun _ _ _ _ _ _ => trivial)
  by_cases hp : 0 ≤ a <;> by_cases hq : 0 ≤ b
  all_goals
    have EA := Lib.hid (show (a.natAbs : Int) = a ∨ (a.natAbs : Int) = -a by omega)
    have EB := Lib.hid (show (b.natAbs : Int) = b ∨ (b.natAbs : Int) = -b by omega)
    have XA := Lib.hid (show (0 ≤ a → (a.natAbs : Int) = a) ∧ (¬ 0 ≤ a → (a.natAbs : Int) = -a) by omega)
    have XB := Lib.hid (show (0 ≤ b → (b.natAbs : Int) = b) ∧ (¬ 0 ≤ b → (b.natAbs : Int) = -b) by omega)
    have Hp := Lib.hid hp
    have Hq := Lib.hid hq
    go_enter Try.func91, Try.ntmps91
    go_wp2
    go_loopw [0, 1] (fun x y wr => ∃ a' b' : Int, x = .int .i64 a' ∧ y = .int .i64 b' ∧ Hid (Sz a' ∧ 0 ≤ a') ∧ Hid (Sz b' ∧ 0 ≤ b') ∧ Hid (Int.gcd a' b' = Int.gcd a b) ∧ Hid (∃ m, wr = w.drewN m)) (fun _ y _ => (intOf y).natAbs)
    case atStart =>
      refine ⟨(a.natAbs : Int), (b.natAbs : Int), ?_, ?_, Lib.hid ⟨Sa.out, by omega⟩, Lib.hid ⟨Sb.out, by omega⟩, N, Lib.hid ⟨0, rfl⟩⟩
      · first | rw [XA.out.1 Hp.out] | rw [XA.out.2 Hp.out]
      · first | rw [XB.out.1 Hq.out] | rw [XB.out.2 Hq.out]
    case round =>
      obtain ⟨a', b', rfl, rfl, h1, h2, h3, hm⟩ := hrel
      by_cases h0 : b' = 0
      · subst h0
        have E := Lib.hid (show (a'.natAbs : Int) = Int.gcd a b by rw [← h3.out, Int.gcd_zero_right])
        obtain ⟨⟨l3, l4⟩, l5⟩ := h1.out
        go_wp2
        go_ret
        refine ⟨?_, hm.out⟩
        rw [← E.out]
        show Ending.returned (.int .i64 a') = _
        rw [show (a'.natAbs : Int) = a' by omega]
      · have t1 : (b' != 0) = true := by simp [h0]
        go_wp2
        go_quiet (fail)
        go_wp2
        go_roundw
        case rel => exact ⟨b', a'.tmod b', rfl, rfl, h2, Lib.hid ⟨sz_tmod h1.out.1, tmod_nonneg h1.out.2⟩, Lib.hid ((gcd_step a' b').trans h3.out), drewN_more hm.out _⟩
        case measure => exact tmod_bd a' h0

theorem ratio_any (n d : Int) (w : World) (hn : Sz n) (hd : Sz d) (hd0 : 0 < d) :
    Calls Try.prog 66 #[.int .i64 n, .int .i64 d] w (RetR (rN n d) (rD n d) w) := by
  have g0 := gcd_pos n hd0
  have gne : (Int.gcd n d : Int) ≠ 0 := by omega
  have q1 := rN_tdiv n d
  have q2 := rD_tdiv n d
  have q3 : wrap64 (rN n d) = rN n d := IntWalk.wrap64_in _ (by have := rN_abs (n := n) hd0; unfold Sz at hn; omega)
  have q4 : wrap64 (rD n d) = rD n d := IntWalk.wrap64_in _ (by have := rD_le n hd0; have := rD_pos n hd0; unfold Sz at hd; omega)
  go_enter Try.func66, Try.ntmps66
  go_wp2_with (go_at_call 91; refine (divisor_any n d _ hn hd).mono ?_; rintro e w' ⟨rfl, m, rfl⟩)
  go_region
  all_goals go_wp2
  exact bodyPost_ret (v := .agg #[.int .i64 (rN n d), .int .i64 (rD n d)]) (by simp [results, Try.results66, go_sem]) rfl
    ⟨rfl, ((((Gr.refl w).alloc _).drewN _).setCell (Nat.le_refl _) _).setCell (Nat.le_refl _) _⟩

theorem Ratio_any (n d : Int) (w : World) (hn : Sz n) (hd : Sz d) (hd0 : 0 < d) :
    Calls Try.prog 44 #[.int .i64 n, .int .i64 d] w (RetR (rN n d) (rD n d) w) := by
  have g0 := gcd_pos n hd0
  have gne : (Int.gcd n d : Int) ≠ 0 := by omega
  have q1 := rN_tdiv n d
  have q2 := rD_tdiv n d
  have q3 : wrap64 (rN n d) = rN n d := IntWalk.wrap64_in _ (by have := rN_abs (n := n) hd0; unfold Sz at hn; omega)
  have q4 : wrap64 (rD n d) = rD n d := IntWalk.wrap64_in _ (by have := rD_le n hd0; have := rD_pos n hd0; unfold Sz at hd; omega)
  go_enter Try.func44, Try.ntmps44
  go_wp2_with (go_at_call 81; refine (gcd_any n d _ hn hd).mono ?_; rintro e w' ⟨rfl, m, rfl⟩)
  go_region
  all_goals go_wp2
  exact bodyPost_ret (v := .agg #[.int .i64 (rN n d), .int .i64 (rD n d)]) (by simp [results, Try.results44, go_sem]) rfl
    ⟨rfl, ((((Gr.refl w).alloc _).drewN _).setCell (Nat.le_refl _) _).setCell (Nat.le_refl _) _⟩

end Go.Proofs.Ytbhndfnfohoidaa

namespace Go.Proofs.Ytbhndfnfohoidaa
open Go.RowKit Go.Firn

def btw (a n b : Int) : Bool := decide (a ≤ n) && decide (n ≤ b)
theorem btw_true {a n b : Int} : btw a n b = true ↔ a ≤ n ∧ n ≤ b := by simp [btw]
theorem btw_false {a n b : Int} : btw a n b = false ↔ ¬ (a ≤ n ∧ n ≤ b) := by simp [btw]

theorem between_any (a n b : Int) (w : World) :
    Calls Try.prog 70 #[.int .i64 a, .int .i64 n, .int .i64 b] w fun e w' => e = .returned (.bool (btw a n b)) ∧ w = w' := by
  by_cases h1 : a ≤ n
  · have e : btw a n b = decide (n ≤ b) := by simp [btw, h1]
    go_enter Try.func70, Try.ntmps70
    go_wp2
    go_ret
    simp [e]
  · have e : btw a n b = false := by simp [btw, h1]
    have e' := Lib.hid e; clear e
    go_enter Try.func70, Try.ntmps70
    go_wp2
    go_ret
    simp [e'.out]

theorem abs_any (x : Int) (w : World) (h : Sz x) : Calls Try.prog 75 #[.int .i64 x] w fun e w' => e = .returned (.int .i64 (ab x)) ∧ w = w' := by
  have E := Lib.hid (ab_cases x)
  obtain ⟨h1, h2⟩ := h
  by_cases hp : 0 ≤ x
  · go_enter Try.func75, Try.ntmps75
    go_wp2
    go_ret
    refine ⟨?_, rfl⟩
    show Ending.returned (.int .i64 x) = _
    have := E.out
    rw [show ab x = x by omega]
  · go_enter Try.func75, Try.ntmps75
    go_wp2
    go_ret
    refine ⟨?_, rfl⟩
    show Ending.returned (.int .i64 (-x)) = _
    have := E.out
    rw [show ab x = -x by omega]
theorem size_any (x : Int) (w : World) (h : Sz x) : Calls Try.prog 88 #[.int .i64 x] w fun e w' => e = .returned (.int .i64 (ab x)) ∧ w = w' := by
  have E := Lib.hid (ab_cases x)
  obtain ⟨h1, h2⟩ := h
  by_cases hp : 0 ≤ x
  · go_enter Try.func88, Try.ntmps88
    go_wp2
    go_ret
    refine ⟨?_, rfl⟩
    show Ending.returned (.int .i64 x) = _
    have := E.out
    rw [show ab x = x by omega]
  · go_enter Try.func88, Try.ntmps88
    go_wp2
    go_ret
    refine ⟨?_, rfl⟩
    show Ending.returned (.int .i64 (-x)) = _
    have := E.out
    rw [show ab x = -x by omega]

/-- An int. -/
def RetI (x : Int) (w : World) (e : Ending) (w' : World) : Prop := e = .returned (.int .i64 x) ∧ Gr w w'
theorem rest_any (x y A B D : Int) (w : World) (h1 : InP x y) (h2 : InL A B D) :
    Calls Try.prog 67 #[.agg #[.int .i64 x, .int .i64 y], .agg #[.int .i64 A, .int .i64 B, .int .i64 D]] w (RetI (rs x y A B D) w) := by
  obtain ⟨a, b, c⟩ := rs_bd h1 h2
  have R := Lib.hid (show rs x y A B D = y * D - A * x - B from rfl)
  obtain ⟨⟨x1, x2⟩, y1, y2⟩ := h1
  obtain ⟨⟨A1, A2⟩, ⟨B1, B2⟩, D1, D2⟩ := h2
  unfold rs at c
  have q1 : wrap64 (y * D) = y * D := IntWalk.wrap64_in _ (by omega)
  have q2 : wrap64 (A * x) = A * x := IntWalk.wrap64_in _ (by omega)
  have q3 : wrap64 (y * D - A * x) = y * D - A * x := IntWalk.wrap64_in _ (by omega)
  have q4 : wrap64 (y * D - A * x - B) = y * D - A * x - B := IntWalk.wrap64_in _ (by omega)
  clear a b c x1 x2 y1 y2 A1 A2 B1 B2 D1 D2
  go_enter Try.func67, Try.ntmps67
  go_wp2_with fail
  go_ret
  rw [R.out]
  exact ⟨by show Ending.returned (.int .i64 (wrap64 (y * D - A * x - B))) = _; rw [q4], ((Gr.refl w).alloc _).alloc _⟩
theorem refrest_any (x y A B D : Int) (w : World) (h1 : InP x y) (h2 : InL A B D) :
    Calls Try.prog 69 #[.agg #[.int .i64 x, .int .i64 y], .agg #[.int .i64 A, .int .i64 B, .int .i64 D]] w (RetI (rs x y A B D) w) := by
  obtain ⟨a, b, c⟩ := rs_bd h1 h2
  have R := Lib.hid (show rs x y A B D = y * D - A * x - B from rfl)
  obtain ⟨⟨x1, x2⟩, y1, y2⟩ := h1
  obtain ⟨⟨A1, A2⟩, ⟨B1, B2⟩, D1, D2⟩ := h2
  unfold rs at c
  have q1 : wrap64 (y * D) = y * D := IntWalk.wrap64_in _ (by omega)
  have q2 : wrap64 (A * x) = A * x := IntWalk.wrap64_in _ (by omega)
  have q3 : wrap64 (y * D - A * x) = y * D - A * x := IntWalk.wrap64_in _ (by omega)
  have q4 : wrap64 (y * D - A * x - B) = y * D - A * x - B := IntWalk.wrap64_in _ (by omega)
  clear a b c x1 x2 y1 y2 A1 A2 B1 B2 D1 D2
  go_enter Try.func69, Try.ntmps69
  go_wp2_with fail
  go_ret
  rw [R.out]
  exact ⟨by show Ending.returned (.int .i64 (wrap64 (y * D - A * x - B))) = _; rw [q4], ((Gr.refl w).alloc _).alloc _⟩

theorem isNaN_any (x : Int) (w : World) : Calls Try.prog 104 #[.int .i64 x] w fun e w' => e = .returned (.bool false) ∧ w' = w := by
  go_enter Try.func104, Try.ntmps104
  go_wp2
  go_ret
  exact ⟨rfl, rfl⟩

/-- The sign of a comparison. -/
def cmpI (x y : Int) : Int := if x < y then -1 else if y < x then 1 else 0
theorem Compare_any (x y : Int) (w : World) : Calls Try.prog 96 #[.int .i64 x, .int .i64 y] w fun e w' => e = .returned (.int .i64 (cmpI x y)) ∧ w = w' := by
  rcases Int.lt_trichotomy x y with h | h | h
  · have e : cmpI x y = -1 := by simp [cmpI, h]
    rw [e]
    have d1 : decide (x < y) = true := by simp; omega
    go_enter Try.func96, Try.ntmps96
    go_wp2_with (go_at_call 104; refine (isNaN_any _ _).mono ?_; rintro e w1 ⟨rfl, rfl⟩)
    go_ret
    exact ⟨rfl, rfl⟩
  · have e : cmpI x y = 0 := by simp [cmpI, h]
    rw [e]
    have d1 : decide (x < y) = false := by simp; omega
    have d2 : decide (y < x) = false := by simp; omega
    clear h
    go_enter Try.func96, Try.ntmps96
    go_wp2_with (go_at_call 104; refine (isNaN_any _ _).mono ?_; rintro e w1 ⟨rfl, rfl⟩)
    go_ret
    exact ⟨rfl, rfl⟩
  · have e : cmpI x y = 1 := by simp [cmpI, h]; omega
    rw [e]
    have d1 : decide (x < y) = false := by simp; omega
    have d2 : decide (y < x) = true := by simp; omega
    clear h
    go_enter Try.func96, Try.ntmps96
    go_wp2_with (go_at_call 104; refine (isNaN_any _ _).mono ?_; rintro e w1 ⟨rfl, rfl⟩)
    go_ret
    exact ⟨rfl, rfl⟩

theorem compare_any (N D N' D' : Int) (w : World) (h1 : Sz (N * D')) (h2 : Sz (N' * D)) :
    Calls Try.prog 85 #[.agg #[.int .i64 N, .int .i64 D], .agg #[.int .i64 N', .int .i64 D']] w (RetI (cmpI (N * D') (N' * D)) w) := by
  have q1 : wrap64 (N * D') = N * D' := IntWalk.wrap64_in _ (by unfold Sz at h1; omega)
  have q2 : wrap64 (N' * D) = N' * D := IntWalk.wrap64_in _ (by unfold Sz at h2; omega)
  clear h1 h2
  go_enter Try.func85, Try.ntmps85
  go_wp2_with (go_at_call 96; refine (Compare_any _ _ _).mono ?_; rintro e w1 ⟨rfl, rfl⟩)
  go_ret
  exact ⟨rfl, ((Gr.refl w).alloc _).alloc _⟩
theorem refLess_any (N D N' D' : Int) (w : World) (h1 : Sz (N * D')) (h2 : Sz (N' * D)) :
    Calls Try.prog 46 #[.agg #[.int .i64 N, .int .i64 D], .agg #[.int .i64 N', .int .i64 D']] w (RetB (decide (N * D' < N' * D)) w) := by
  have q1 : IntKind.i64.wrap (N * D') = N * D' := IntWalk.i64_in _ (by unfold Sz at h1; omega)
  have q2 : IntKind.i64.wrap (N' * D) = N' * D := IntWalk.i64_in _ (by unfold Sz at h2; omega)
  clear h1 h2
  go_enter Try.func46, Try.ntmps46
  go_wp2_with fail
  go_ret
  exact ⟨rfl, ((Gr.refl w).alloc _).alloc _⟩

/-- A line. -/
def RetL (A B D : Int) (w : World) (e : Ending) (w' : World) : Prop := e = .returned (.agg #[.int .i64 A, .int .i64 B, .int .i64 D]) ∧ Gr w w'

theorem made_any (a b d : Int) (w : World) (ha : Sz a) (hb : Sz b) (hd : Sz d) (h0 : d ≠ 0) :
    Calls Try.prog 94 #[.int .i64 a, .int .i64 b, .int .i64 d] w (RetL (mkA a b d) (mkB a b d) (mkD a b d) w) := by
  obtain ⟨p1, p2, p3⟩ := mk_abs a b h0
  have q1 := mkA_tdiv a b d
  have q2 := mkB_tdiv a b d
  have q3 := mkD_tdiv a b d
  have r1 : wrap64 (mkA a b d) = mkA a b d := IntWalk.wrap64_in _ (by unfold Sz at ha; omega)
  have r2 : wrap64 (mkB a b d) = mkB a b d := IntWalk.wrap64_in _ (by unfold Sz at hb; omega)
  have r3 : wrap64 (mkD a b d) = mkD a b d := IntWalk.wrap64_in _ (by unfold Sz at hd; omega)
  have gn := gk_ne a b h0
  have gp := g3_pos a b h0
  have sg : Sz (Int.gcd a b : Int) := by
    have h := Int.gcd_dvd_left a b
    by_cases e : a = 0
    · subst e; rw [Int.gcd_zero_left]; unfold Sz at hb ⊢; omega
    · have := Int.le_of_dvd (show 0 < (a.natAbs : Int) by omega) (Int.dvd_natAbs.2 h)
      unfold Sz at ha ⊢; omega
  have s3 : (Int.gcd (Int.gcd a b) d : Int) ≤ 4611686018427387904 := by
    have := Int.le_of_dvd (show 0 < (d.natAbs : Int) by omega) (Int.dvd_natAbs.2 (Int.gcd_dvd_right (Int.gcd a b : Int) d))
    unfold Sz at hd; omega
  have GK := Lib.hid (show gk a b d = if d < 0 then -(Int.gcd (Int.gcd a b) d : Int) else (Int.gcd (Int.gcd a b) d : Int) from rfl)
  have C1 := Lib.hid (fun w' => divisor_any a b w' ha hb)
  have C2 := Lib.hid (fun w' => divisor_any (Int.gcd a b) d w' sg hd)
  clear ha hb hd sg p1 p2 p3
  by_cases hn : d < 0
  · have gk' : -(Int.gcd (Int.gcd a b) d : Int) = gk a b d := by rw [GK.out, if_pos hn]
    generalize gk a b d = k at *
    go_enter Try.func94, Try.ntmps94
    go_wp2_with (first
      | (go_at_call 91; (with_reducible refine (C1.out _).mono ?_); rintro e w1 ⟨rfl, m1, rfl⟩)
      | (go_at_call 91; (with_reducible refine (C2.out _).mono ?_); rintro e w1 ⟨rfl, m2, rfl⟩))
    go_region
    all_goals go_wp2_with fail
    exact bodyPost_ret (v := .agg #[.int .i64 (mkA a b d), .int .i64 (mkB a b d), .int .i64 (mkD a b d)]) (by simp [results, Try.results94, go_sem]) rfl
      ⟨rfl, (((((Gr.refl w).alloc _).drewN _).setCell (Nat.le_refl _) _).setCell (Nat.le_refl _) _).setCell (Nat.le_refl _) _⟩
  · have gk' : (Int.gcd (Int.gcd a b) d : Int) = gk a b d := by rw [GK.out, if_neg hn]
    rw [gk'] at C2 s3
    clear gk'
    generalize gk a b d = k at *
    go_enter Try.func94, Try.ntmps94
    go_wp2_with (first
      | (go_at_call 91; (with_reducible refine (C1.out _).mono ?_); rintro e w1 ⟨rfl, m1, rfl⟩)
      | (go_at_call 91; (with_reducible refine (C2.out _).mono ?_); rintro e w1 ⟨rfl, m2, rfl⟩))
    go_region
    all_goals go_wp2_with fail
    exact bodyPost_ret (v := .agg #[.int .i64 (mkA a b d), .int .i64 (mkB a b d), .int .i64 (mkD a b d)]) (by simp [results, Try.results94, go_sem]) rfl
      ⟨rfl, (((((Gr.refl w).alloc _).drewN _).setCell (Nat.le_refl _) _).setCell (Nat.le_refl _) _).setCell (Nat.le_refl _) _⟩

end Go.Proofs.Ytbhndfnfohoidaa

namespace Go.Proofs.Ytbhndfnfohoidaa
open Go.RowKit Go.Firn

theorem through_any (x1 y1 x2 y2 : Int) (w : World) (h1 : InP x1 y1) (h2 : InP x2 y2) (hx : x1 ≠ x2) :
    Calls Try.prog 82 #[.agg #[.int .i64 x1, .int .i64 y1], .agg #[.int .i64 x2, .int .i64 y2]] w (RetL (thA x1 y1 x2 y2) (thB x1 y1 x2 y2) (thD x1 y1 x2 y2) w) := by
  obtain ⟨a, b, c⟩ := rw_bd h1 h2
  have C := Lib.hid (fun w' => made_any (rwA x1 y1 x2 y2) (rwB x1 y1 x2 y2) (rwD x1 y1 x2 y2) w' (by unfold Sz; omega) (by unfold Sz; omega) (by unfold Sz; omega) (by unfold rwD; omega))
  have C' : Hid (∀ w', Calls Try.prog 94 #[.int .i64 (y2 - y1), .int .i64 (y1 * (x2 - x1) - (y2 - y1) * x1), .int .i64 (x2 - x1)] w' (RetL (thA x1 y1 x2 y2) (thB x1 y1 x2 y2) (thD x1 y1 x2 y2) w')) := C
  obtain ⟨⟨a1, a2⟩, a3, a4⟩ := h1
  obtain ⟨⟨b1, b2⟩, b3, b4⟩ := h2
  unfold rwA at a
  unfold rwB at b
  have m1 := mul_bd (a := y1) (b := x2 - x1) (A := 1000) (B := 200) (by omega) (by omega) (by omega) (by omega)
  have m2 := mul_bd (a := y2 - y1) (b := x1) (A := 2000) (B := 100) (by omega) (by omega) (by omega) (by omega)
  have q1 : wrap64 (y1 * (x2 - x1)) = y1 * (x2 - x1) := IntWalk.wrap64_in _ (by omega)
  have q2 : wrap64 ((y2 - y1) * x1) = (y2 - y1) * x1 := IntWalk.wrap64_in _ (by omega)
  have q3 : wrap64 (y1 * (x2 - x1) - (y2 - y1) * x1) = y1 * (x2 - x1) - (y2 - y1) * x1 := IntWalk.wrap64_in _ (by omega)
  have q4 : wrap64 (y2 - y1) = y2 - y1 := IntWalk.wrap64_in _ (by omega)
  have q5 : wrap64 (x2 - x1) = x2 - x1 := IntWalk.wrap64_in _ (by omega)
  clear a b c C m1 m2 a1 a2 a3 a4 b1 b2 b3 b4 hx
  go_enter Try.func82, Try.ntmps82
  go_wp2_with (go_at_call 94; (with_reducible refine (C'.out _).mono ?_); rintro e w1 ⟨rfl, g1⟩; obtain ⟨c0, f0⟩ := g1.fresh' (b := w.heap.size + 1 + 1) (j := 0) (v := .int .i64 0) (by simp) rfl; obtain ⟨c1, f1⟩ := g1.fresh' (b := w.heap.size + 1 + 1) (j := 1) (v := .int .i64 0) (by simp) rfl; obtain ⟨c2, f2⟩ := g1.fresh' (b := w.heap.size + 1 + 1) (j := 2) (v := .int .i64 0) (by simp) rfl)
  have G : Gr w w1 := (((Gr.refl w).alloc _).alloc _).trans (((Gr.refl _).alloc _).trans g1)
  exact bodyPost_ret (v := .agg #[.int .i64 (thA x1 y1 x2 y2), .int .i64 (thB x1 y1 x2 y2), .int .i64 (thD x1 y1 x2 y2)]) (by simp [results, Try.results82, go_sem, c0, c1, c2]) rfl
    ⟨rfl, ((G.setCell (Nat.le_add_right_of_le (Nat.le_add_right _ _)) _).setCell (Nat.le_add_right_of_le (Nat.le_add_right _ _)) _).setCell (Nat.le_add_right_of_le (Nat.le_add_right _ _)) _⟩

theorem g3_eq {d : Int} (a b : Int) (hd : 0 < d) : (Int.gcd (Int.gcd d a : Int) b : Int) = gk a b d := by
  unfold gk
  rw [if_neg (by omega)]
  congr 1
  unfold Int.gcd
  simp only [Int.natAbs_natCast]
  rw [Nat.gcd_assoc, Nat.gcd_comm d.natAbs]

set_option maxHeartbeats 1000000 in
theorem refthrough_any (x1 y1 x2 y2 : Int) (w : World) (h1 : InP x1 y1) (h2 : InP x2 y2) (hx : x1 ≠ x2) :
    Calls Try.prog 61 #[.agg #[.int .i64 x1, .int .i64 y1], .agg #[.int .i64 x2, .int .i64 y2]] w (RetL (thA x1 y1 x2 y2) (thB x1 y1 x2 y2) (thD x1 y1 x2 y2) w) := by
  rcases Int.lt_or_gt_of_ne hx with hx | hx
  · obtain ⟨a, b, c⟩ := rw_bd h1 h2
    have hd : 0 < rwD x1 y1 x2 y2 := by unfold rwD; omega
    have hd0 : rwD x1 y1 x2 y2 ≠ 0 := by omega
    have G3 := Lib.hid (g3_eq (rwA x1 y1 x2 y2) (rwB x1 y1 x2 y2) hd)
    obtain ⟨p1, p2, p3⟩ := mk_abs (rwA x1 y1 x2 y2) (rwB x1 y1 x2 y2) hd0
    have q1 : (y2 - y1).tdiv (gk (rwA x1 y1 x2 y2) (rwB x1 y1 x2 y2) (rwD x1 y1 x2 y2)) = thA x1 y1 x2 y2 := mkA_tdiv (rwA x1 y1 x2 y2) (rwB x1 y1 x2 y2) (rwD x1 y1 x2 y2)
    have q2 : (y1 * (x2 - x1) - (y2 - y1) * x1).tdiv (gk (rwA x1 y1 x2 y2) (rwB x1 y1 x2 y2) (rwD x1 y1 x2 y2)) = thB x1 y1 x2 y2 := mkB_tdiv (rwA x1 y1 x2 y2) (rwB x1 y1 x2 y2) (rwD x1 y1 x2 y2)
    have q3 : (x2 - x1).tdiv (gk (rwA x1 y1 x2 y2) (rwB x1 y1 x2 y2) (rwD x1 y1 x2 y2)) = thD x1 y1 x2 y2 := mkD_tdiv (rwA x1 y1 x2 y2) (rwB x1 y1 x2 y2) (rwD x1 y1 x2 y2)
    have gk0 : gk (rwA x1 y1 x2 y2) (rwB x1 y1 x2 y2) (rwD x1 y1 x2 y2) ≠ 0 := gk_ne _ _ hd0
    have r1 : wrap64 (thA x1 y1 x2 y2) = thA x1 y1 x2 y2 := IntWalk.wrap64_in _ (by unfold thA; omega)
    have r2 : wrap64 (thB x1 y1 x2 y2) = thB x1 y1 x2 y2 := IntWalk.wrap64_in _ (by unfold thB; omega)
    have r3 : wrap64 (thD x1 y1 x2 y2) = thD x1 y1 x2 y2 := IntWalk.wrap64_in _ (by unfold thD; omega)
    have C1 := Lib.hid (show ∀ w', Calls Try.prog 81 #[.int .i64 (x2 - x1), .int .i64 (y2 - y1)] w' fun e w'' => e = .returned (.int .i64 (Int.gcd (rwD x1 y1 x2 y2) (rwA x1 y1 x2 y2))) ∧ ∃ m, w'' = w'.drewN m from fun w' => gcd_any (rwD x1 y1 x2 y2) (rwA x1 y1 x2 y2) w' (by unfold Sz; omega) (by unfold Sz; omega))
    have sg : Sz (Int.gcd (rwD x1 y1 x2 y2) (rwA x1 y1 x2 y2) : Int) := by
      have := Int.le_of_dvd hd (Int.gcd_dvd_left (rwD x1 y1 x2 y2) (rwA x1 y1 x2 y2))
      unfold Sz; omega
    have C2 := Lib.hid (show ∀ w', Calls Try.prog 81 #[.int .i64 (Int.gcd (rwD x1 y1 x2 y2) (rwA x1 y1 x2 y2)), .int .i64 (y1 * (x2 - x1) - (y2 - y1) * x1)] w' fun e w'' => e = .returned (.int .i64 (gk (rwA x1 y1 x2 y2) (rwB x1 y1 x2 y2) (rwD x1 y1 x2 y2))) ∧ ∃ m, w'' = w'.drewN m from fun w' => by have := gcd_any (Int.gcd (rwD x1 y1 x2 y2) (rwA x1 y1 x2 y2)) (rwB x1 y1 x2 y2) w' sg (by unfold Sz; omega); rw [G3.out] at this; exact this)
    generalize gk (rwA x1 y1 x2 y2) (rwB x1 y1 x2 y2) (rwD x1 y1 x2 y2) = k at *
    generalize (Int.gcd (rwD x1 y1 x2 y2) (rwA x1 y1 x2 y2) : Int) = g at *
    unfold rwA at a
    unfold rwB at b
    unfold rwD at c
    obtain ⟨⟨a1, a2⟩, a3, a4⟩ := h1
    obtain ⟨⟨b1, b2⟩, b3, b4⟩ := h2
    have m1 := mul_bd (a := y1) (b := x2 - x1) (A := 1000) (B := 200) (by omega) (by omega) (by omega) (by omega)
    have m2 := mul_bd (a := y2 - y1) (b := x1) (A := 2000) (B := 100) (by omega) (by omega) (by omega) (by omega)
    have e1 : wrap64 (y1 * (x2 - x1)) = y1 * (x2 - x1) := IntWalk.wrap64_in _ (by omega)
    have e2 : wrap64 ((y2 - y1) * x1) = (y2 - y1) * x1 := IntWalk.wrap64_in _ (by omega)
    have e3 : wrap64 (y1 * (x2 - x1) - (y2 - y1) * x1) = y1 * (x2 - x1) - (y2 - y1) * x1 := IntWalk.wrap64_in _ (by omega)
    have e4 : wrap64 (y2 - y1) = y2 - y1 := IntWalk.wrap64_in _ (by omega)
    have e5 : wrap64 (x2 - x1) = x2 - x1 := IntWalk.wrap64_in _ (by omega)
    have SW := Lib.hid (show thA x1 y1 x2 y2 = thA x1 y1 x2 y2 ∧ thB x1 y1 x2 y2 = thB x1 y1 x2 y2 ∧ thD x1 y1 x2 y2 = thD x1 y1 x2 y2 from ⟨rfl, rfl, rfl⟩)
    have hx' : ¬ x2 < x1 := by omega
    clear a b c m1 m2 a1 a2 a3 a4 b1 b2 b3 b4 p1 p2 p3 hd hd0 sg G3 hx
    go_enter Try.func61, Try.ntmps61
    go_wp2_with fail
    go_quiet ((first | (go_at_call 81; with_reducible exact Calls.quiet_of (C1.out _)) | (go_at_call 81; with_reducible exact Calls.quiet_of (C2.out _))))
    go_wp2_with fail
    go_region
    all_goals go_wp2_with fail
    refine bodyPost_ret (v := .agg #[.int .i64 (thA x1 y1 x2 y2), .int .i64 (thB x1 y1 x2 y2), .int .i64 (thD x1 y1 x2 y2)]) (by simp [results, Try.results61, go_sem]) rfl ⟨rfl, ?_⟩
    repeat (first | exact Gr.refl _ | refine Gr.alloc ?_ _ | refine Gr.drewN ?_ _ | refine Gr.drew ?_ | refine Gr.setCell ?_ (by simp; omega) _ | refine Gr.setCell ?_ (by simp) _)
  · obtain ⟨a, b, c⟩ := rw_bd h2 h1
    have hd : 0 < rwD x2 y2 x1 y1 := by unfold rwD; omega
    have hd0 : rwD x2 y2 x1 y1 ≠ 0 := by omega
    have G3 := Lib.hid (g3_eq (rwA x2 y2 x1 y1) (rwB x2 y2 x1 y1) hd)
    obtain ⟨p1, p2, p3⟩ := mk_abs (rwA x2 y2 x1 y1) (rwB x2 y2 x1 y1) hd0
    have q1 : (y1 - y2).tdiv (gk (rwA x2 y2 x1 y1) (rwB x2 y2 x1 y1) (rwD x2 y2 x1 y1)) = thA x2 y2 x1 y1 := mkA_tdiv (rwA x2 y2 x1 y1) (rwB x2 y2 x1 y1) (rwD x2 y2 x1 y1)
    have q2 : (y2 * (x1 - x2) - (y1 - y2) * x2).tdiv (gk (rwA x2 y2 x1 y1) (rwB x2 y2 x1 y1) (rwD x2 y2 x1 y1)) = thB x2 y2 x1 y1 := mkB_tdiv (rwA x2 y2 x1 y1) (rwB x2 y2 x1 y1) (rwD x2 y2 x1 y1)
    have q3 : (x1 - x2).tdiv (gk (rwA x2 y2 x1 y1) (rwB x2 y2 x1 y1) (rwD x2 y2 x1 y1)) = thD x2 y2 x1 y1 := mkD_tdiv (rwA x2 y2 x1 y1) (rwB x2 y2 x1 y1) (rwD x2 y2 x1 y1)
    have gk0 : gk (rwA x2 y2 x1 y1) (rwB x2 y2 x1 y1) (rwD x2 y2 x1 y1) ≠ 0 := gk_ne _ _ hd0
    have r1 : wrap64 (thA x2 y2 x1 y1) = thA x2 y2 x1 y1 := IntWalk.wrap64_in _ (by unfold thA; omega)
    have r2 : wrap64 (thB x2 y2 x1 y1) = thB x2 y2 x1 y1 := IntWalk.wrap64_in _ (by unfold thB; omega)
    have r3 : wrap64 (thD x2 y2 x1 y1) = thD x2 y2 x1 y1 := IntWalk.wrap64_in _ (by unfold thD; omega)
    have C1 := Lib.hid (show ∀ w', Calls Try.prog 81 #[.int .i64 (x1 - x2), .int .i64 (y1 - y2)] w' fun e w'' => e = .returned (.int .i64 (Int.gcd (rwD x2 y2 x1 y1) (rwA x2 y2 x1 y1))) ∧ ∃ m, w'' = w'.drewN m from fun w' => gcd_any (rwD x2 y2 x1 y1) (rwA x2 y2 x1 y1) w' (by unfold Sz; omega) (by unfold Sz; omega))
    have sg : Sz (Int.gcd (rwD x2 y2 x1 y1) (rwA x2 y2 x1 y1) : Int) := by
      have := Int.le_of_dvd hd (Int.gcd_dvd_left (rwD x2 y2 x1 y1) (rwA x2 y2 x1 y1))
      unfold Sz; omega
    have C2 := Lib.hid (show ∀ w', Calls Try.prog 81 #[.int .i64 (Int.gcd (rwD x2 y2 x1 y1) (rwA x2 y2 x1 y1)), .int .i64 (y2 * (x1 - x2) - (y1 - y2) * x2)] w' fun e w'' => e = .returned (.int .i64 (gk (rwA x2 y2 x1 y1) (rwB x2 y2 x1 y1) (rwD x2 y2 x1 y1))) ∧ ∃ m, w'' = w'.drewN m from fun w' => by have := gcd_any (Int.gcd (rwD x2 y2 x1 y1) (rwA x2 y2 x1 y1)) (rwB x2 y2 x1 y1) w' sg (by unfold Sz; omega); rw [G3.out] at this; exact this)
    generalize gk (rwA x2 y2 x1 y1) (rwB x2 y2 x1 y1) (rwD x2 y2 x1 y1) = k at *
    generalize (Int.gcd (rwD x2 y2 x1 y1) (rwA x2 y2 x1 y1) : Int) = g at *
    unfold rwA at a
    unfold rwB at b
    unfold rwD at c
    obtain ⟨⟨a1, a2⟩, a3, a4⟩ := h2
    obtain ⟨⟨b1, b2⟩, b3, b4⟩ := h1
    have m1 := mul_bd (a := y2) (b := x1 - x2) (A := 1000) (B := 200) (by omega) (by omega) (by omega) (by omega)
    have m2 := mul_bd (a := y1 - y2) (b := x2) (A := 2000) (B := 100) (by omega) (by omega) (by omega) (by omega)
    have e1 : wrap64 (y2 * (x1 - x2)) = y2 * (x1 - x2) := IntWalk.wrap64_in _ (by omega)
    have e2 : wrap64 ((y1 - y2) * x2) = (y1 - y2) * x2 := IntWalk.wrap64_in _ (by omega)
    have e3 : wrap64 (y2 * (x1 - x2) - (y1 - y2) * x2) = y2 * (x1 - x2) - (y1 - y2) * x2 := IntWalk.wrap64_in _ (by omega)
    have e4 : wrap64 (y1 - y2) = y1 - y2 := IntWalk.wrap64_in _ (by omega)
    have e5 : wrap64 (x1 - x2) = x1 - x2 := IntWalk.wrap64_in _ (by omega)
    have SW := Lib.hid (show thA x2 y2 x1 y1 = thA x1 y1 x2 y2 ∧ thB x2 y2 x1 y1 = thB x1 y1 x2 y2 ∧ thD x2 y2 x1 y1 = thD x1 y1 x2 y2 from th_swap (by omega))
    have hx' : x2 < x1 := hx
    clear a b c m1 m2 a1 a2 a3 a4 b1 b2 b3 b4 p1 p2 p3 hd hd0 sg G3 hx
    go_enter Try.func61, Try.ntmps61
    go_wp2_with fail
    go_quiet ((first | (go_at_call 81; with_reducible exact Calls.quiet_of (C1.out _)) | (go_at_call 81; with_reducible exact Calls.quiet_of (C2.out _))))
    go_wp2_with fail
    go_region
    all_goals go_wp2_with fail
    rw [← SW.out.1, ← SW.out.2.1, ← SW.out.2.2]
    refine bodyPost_ret (v := .agg #[.int .i64 (thA x2 y2 x1 y1), .int .i64 (thB x2 y2 x1 y1), .int .i64 (thD x2 y2 x1 y1)]) (by simp [results, Try.results61, go_sem]) rfl ⟨rfl, ?_⟩
    repeat (first | exact Gr.refl _ | refine Gr.alloc ?_ _ | refine Gr.drewN ?_ _ | refine Gr.drew ?_ | refine Gr.setCell ?_ (by simp; omega) _ | refine Gr.setCell ?_ (by simp) _)

end Go.Proofs.Ytbhndfnfohoidaa

namespace Go.Proofs.Ytbhndfnfohoidaa
open Go.RowKit Go.Firn

def inPB (x y : Int) : Bool := btw (-100) x 100 && btw (-1000) y 1000
theorem inPB_iff {x y : Int} : inPB x y = true ↔ InP x y := by unfold inPB InP; rw [Bool.and_eq_true, btw_true, btw_true]
/-- Which points are valid. -/
def vP (n : Nat) (X Y : Nat → Int) : Bool := decide (2 ≤ n) && decide (n ≤ 12) && ((List.range n).all fun i => inPB (X i) (Y i)) && (List.range n).any fun i => X i != X 0
structure VP (n : Nat) (X Y : Nat → Int) : Prop where
  two : 2 ≤ n
  few : n ≤ 12
  ok : ∀ i, i < n → InP (X i) (Y i)
  far : ∃ i, i < n ∧ X i ≠ X 0
theorem vP_iff {n : Nat} {X Y : Nat → Int} : vP n X Y = true ↔ VP n X Y := by
  unfold vP
  simp only [Bool.and_eq_true, decide_eq_true_eq, List.all_eq_true, List.any_eq_true, List.mem_range, inPB_iff, bne_iff_ne]
  exact ⟨fun ⟨⟨⟨a, b⟩, c⟩, d⟩ => ⟨a, b, c, d⟩, fun h => ⟨⟨⟨h.two, h.few⟩, h.ok⟩, h.far⟩⟩

/-- Whether one of the first k is so. -/
def anyP (p : Nat → Bool) (k : Nat) : Bool := (List.range k).any p
theorem anyP_succ (p : Nat → Bool) (k : Nat) : anyP p (k + 1) = (anyP p k || p k) := by unfold anyP; rw [List.range_succ, List.any_append]; simp
theorem anyP_stop {p : Nat → Bool} {k n : Nat} (hk : k < n) (h : p k = true) : anyP p n = true := by unfold anyP; rw [List.any_eq_true]; exact ⟨k, List.mem_range.2 hk, h⟩

theorem isPoint_any (x y : Int) (w : World) : Calls Try.prog 73 #[.agg #[.int .i64 x, .int .i64 y]] w (RetB (inPB x y) w) := by
  cases h1 : btw (-100) x 100 with
  | true =>
    have E := Lib.hid (show inPB x y = btw (-1000) y 1000 by unfold inPB; rw [h1]; rfl)
    have H1 := Lib.hid h1
    clear h1
    go_enter Try.func73, Try.ntmps73
    go_wp2_with (first
      | (go_at_call 70; (with_reducible refine (between_any (-100) x 100 _).mono ?_); rintro e w1 ⟨rfl, rfl⟩; rw [H1.out])
      | (go_at_call 70; (with_reducible refine (between_any (-1000) y 1000 _).mono ?_); rintro e w1 ⟨rfl, rfl⟩))
    go_ret
    rw [E.out]
    exact ⟨rfl, (Gr.refl w).alloc _⟩
  | false =>
    have E := Lib.hid (show inPB x y = false by unfold inPB; rw [h1]; rfl)
    have H1 := Lib.hid h1
    clear h1
    go_enter Try.func73, Try.ntmps73
    go_wp2_with (go_at_call 70; (with_reducible refine (between_any (-100) x 100 _).mono ?_); rintro e w1 ⟨rfl, rfl⟩; rw [H1.out])
    go_ret
    rw [E.out]
    exact ⟨rfl, (Gr.refl w).alloc _⟩

theorem IsPoint_any (x y : Int) (w : World) : Calls Try.prog 56 #[.agg #[.int .i64 x, .int .i64 y]] w (RetB (inPB x y) w) := by
  by_cases a1 : -100 ≤ x
  · by_cases a2 : x ≤ 100
    · by_cases a3 : -1000 ≤ y
      · by_cases a4 : y ≤ 1000
        · have E := Lib.hid (show inPB x y = true by rw [inPB_iff]; unfold InP; omega)
          go_enter Try.func56, Try.ntmps56
          go_wp2_with fail
          go_ret
          rw [E.out]
          exact ⟨rfl, (Gr.refl w).alloc _⟩
        · have E := Lib.hid (show inPB x y = false by rw [Bool.eq_false_iff]; intro h; rw [inPB_iff] at h; unfold InP at h; omega)
          have d4 : decide (y ≤ 1000) = false := by simp; omega
          go_enter Try.func56, Try.ntmps56
          go_wp2_with fail
          go_ret
          rw [E.out]
          exact ⟨rfl, (Gr.refl w).alloc _⟩
      · have E := Lib.hid (show inPB x y = false by rw [Bool.eq_false_iff]; intro h; rw [inPB_iff] at h; unfold InP at h; omega)
        have d4 : decide (-1000 ≤ y) = false := by simp; omega
        go_enter Try.func56, Try.ntmps56
        go_wp2_with fail
        go_ret
        rw [E.out]
        exact ⟨rfl, (Gr.refl w).alloc _⟩
    · have E := Lib.hid (show inPB x y = false by rw [Bool.eq_false_iff]; intro h; rw [inPB_iff] at h; unfold InP at h; omega)
      have d4 : decide (x ≤ 100) = false := by simp; omega
      go_enter Try.func56, Try.ntmps56
      go_wp2_with fail
      go_ret
      rw [E.out]
      exact ⟨rfl, (Gr.refl w).alloc _⟩
  · have E := Lib.hid (show inPB x y = false by rw [Bool.eq_false_iff]; intro h; rw [inPB_iff] at h; unfold InP at h; omega)
    have d4 : decide (-100 ≤ x) = false := by simp; omega
    go_enter Try.func56, Try.ntmps56
    go_wp2_with fail
    go_ret
    rw [E.out]
    exact ⟨rfl, (Gr.refl w).alloc _⟩

theorem Valid1_any (x y : Int) (w : World) : Calls Try.prog 72 #[.agg #[.int .i64 x, .int .i64 y]] w (RetB (!inPB x y) w) := by
  go_enter Try.func72, Try.ntmps72
  go_wp2_with (go_at_call 73; refine (isPoint_any x y _).mono ?_; rintro e w1 ⟨rfl, g1⟩)
  go_ret
  exact ⟨rfl, ((Gr.refl w).alloc _).trans g1⟩

/-- An index where one is so, or a number below 0. -/
def RetIx (p : Nat → Bool) (n : Nat) (w : World) (e : Ending) (w' : World) : Prop := ∃ z : Int, e = .returned (.int .i64 z) ∧ decide (0 ≤ z) = anyP p n ∧ Gr w w'

theorem IndexFuncA_any (F : Nat) (hcf : ∀ (args : Array Value) (wz : World), (callFunc F args).run Try.prog wz = .ok (.enter F args) wz) (p : Nat → Bool) (a : Option Addr) (n c : Nat) (X Y : Nat → Int) (w : World) (hn : n ≤ 1000) (hr : RdM w a n X Y)
    (H : Hid (∀ j, j < n → ∀ wz, Gr w wz → Calls Try.prog F #[.agg #[.int .i64 (X j), .int .i64 (Y j)]] wz (RetB (p j) wz))) :
    Calls Try.prog 92 #[.slice a n c, .func (.func F) #[] #[]] w (RetIx p n w) := by
  have HR := Lib.hid hr
  clear hr
  go_enter Try.func92, Try.ntmps92
  go_wp2_with fail
  go_loopw [8] (fun i wr => ∃ k : Nat, k ≤ n ∧ i = .int .i64 k ∧ Hid (anyP p k = false) ∧ Gr w wr) (fun i _ => n - (intOf i).toNat)
  case atStart => exact ⟨0, Nat.zero_le _, rfl, rfl, Gr.refl _⟩
  case round =>
    obtain ⟨k, hk, rfl, Hi, hg⟩ := hrel
    by_cases hlt : k < n
    · obtain ⟨b, o, rfl, hc⟩ := (HR.out.gr hg).at hlt
      obtain ⟨c1, c2⟩ := hc k hlt
      have i1 : (k : Int) < n := by omega
      have C := Lib.hid (H.out k hlt wr hg)
      have S := Lib.hid (anyP_succ p k)
      have ST := Lib.hid (fun h => anyP_stop (p := p) hlt h)
      clear hc hlt
      generalize p k = pk at C S ST
      generalize X k = x at *
      generalize Y k = y at *
      cases pk with
      | true =>
        go_wp2_with fail
        refine C.out.mono ?_
        rintro e w1 ⟨rfl, g1⟩
        clear c1 c2
        go_wp2_with fail
        go_ret
        exact ⟨(k : Int), rfl, by rw [ST.out trivial]; simp, hg.trans g1⟩
      | false =>
        have S' := Lib.hid (show anyP p (k + 1) = false by rw [S.out, Hi.out]; rfl)
        go_wp2_with fail
        refine C.out.mono ?_
        rintro e w1 ⟨rfl, g1⟩
        clear c1 c2
        go_wp2_with fail
        go_roundw
        case rel => exact ⟨k + 1, by omega, by go_num, S', hg.trans g1⟩
        case measure => simp [intOf]; omega
    · obtain rfl : k = n := by omega
      go_wp2_with fail
      go_ret
      exact ⟨-1, rfl, by rw [Hi.out]; rfl, hg⟩

theorem ContainsFuncA_any (F : Nat) (hcf : ∀ (args : Array Value) (wz : World), (callFunc F args).run Try.prog wz = .ok (.enter F args) wz) (p : Nat → Bool) (a : Option Addr) (n c : Nat) (X Y : Nat → Int) (w : World) (hn : n ≤ 1000) (hr : RdM w a n X Y)
    (H : Hid (∀ j, j < n → ∀ wz, Gr w wz → Calls Try.prog F #[.agg #[.int .i64 (X j), .int .i64 (Y j)]] wz (RetB (p j) wz))) :
    Calls Try.prog 71 #[.slice a n c, .func (.func F) #[] #[]] w (RetB (anyP p n) w) := by
  have C := Lib.hid (IndexFuncA_any F hcf p a n c X Y w hn hr H)
  clear H hr hcf
  go_enter Try.func71, Try.ntmps71
  go_wp2_with (go_at_call 92; (with_reducible refine C.out.mono ?_); rintro e w1 ⟨z, rfl, hz, g1⟩; have HZ := Lib.hid hz; clear hz)
  go_ret
  rw [← HZ.out]
  exact ⟨rfl, g1⟩

theorem IndexFuncB_any (F : Nat) (u : Value) (hcf : ∀ (args : Array Value) (wz : World), (callFunc F args).run Try.prog wz = .ok (.enter F args) wz) (p : Nat → Bool) (a : Option Addr) (n c : Nat) (X Y : Nat → Int) (w : World) (hn : n ≤ 1000) (hr : RdM w a n X Y)
    (H : Hid (∀ j, j < n → ∀ wz, Gr w wz → Calls Try.prog F #[.agg #[.int .i64 (X j), .int .i64 (Y j)], u] wz (RetB (p j) wz))) :
    Calls Try.prog 92 #[.slice a n c, .func (.func F) #[] #[u]] w (RetIx p n w) := by
  have HR := Lib.hid hr
  clear hr
  go_enter Try.func92, Try.ntmps92
  go_wp2_with fail
  go_loopw [8] (fun i wr => ∃ k : Nat, k ≤ n ∧ i = .int .i64 k ∧ Hid (anyP p k = false) ∧ Gr w wr) (fun i _ => n - (intOf i).toNat)
  case atStart => exact ⟨0, Nat.zero_le _, rfl, rfl, Gr.refl _⟩
  case round =>
    obtain ⟨k, hk, rfl, Hi, hg⟩ := hrel
    by_cases hlt : k < n
    · obtain ⟨b, o, rfl, hc⟩ := (HR.out.gr hg).at hlt
      obtain ⟨c1, c2⟩ := hc k hlt
      have i1 : (k : Int) < n := by omega
      have C := Lib.hid (H.out k hlt wr hg)
      have S := Lib.hid (anyP_succ p k)
      have ST := Lib.hid (fun h => anyP_stop (p := p) hlt h)
      clear hc hlt
      generalize p k = pk at C S ST
      generalize X k = x at *
      generalize Y k = y at *
      cases pk with
      | true =>
        go_wp2_with fail
        refine C.out.mono ?_
        rintro e w1 ⟨rfl, g1⟩
        clear c1 c2
        go_wp2_with fail
        go_ret
        exact ⟨(k : Int), rfl, by rw [ST.out trivial]; simp, hg.trans g1⟩
      | false =>
        have S' := Lib.hid (show anyP p (k + 1) = false by rw [S.out, Hi.out]; rfl)
        go_wp2_with fail
        refine C.out.mono ?_
        rintro e w1 ⟨rfl, g1⟩
        clear c1 c2
        go_wp2_with fail
        go_roundw
        case rel => exact ⟨k + 1, by omega, by go_num, S', hg.trans g1⟩
        case measure => simp [intOf]; omega
    · obtain rfl : k = n := by omega
      go_wp2_with fail
      go_ret
      exact ⟨-1, rfl, by rw [Hi.out]; rfl, hg⟩

theorem ContainsFuncB_any (F : Nat) (u : Value) (hcf : ∀ (args : Array Value) (wz : World), (callFunc F args).run Try.prog wz = .ok (.enter F args) wz) (p : Nat → Bool) (a : Option Addr) (n c : Nat) (X Y : Nat → Int) (w : World) (hn : n ≤ 1000) (hr : RdM w a n X Y)
    (H : Hid (∀ j, j < n → ∀ wz, Gr w wz → Calls Try.prog F #[.agg #[.int .i64 (X j), .int .i64 (Y j)], u] wz (RetB (p j) wz))) :
    Calls Try.prog 71 #[.slice a n c, .func (.func F) #[] #[u]] w (RetB (anyP p n) w) := by
  have C := Lib.hid (IndexFuncB_any F u hcf p a n c X Y w hn hr H)
  clear H hr hcf
  go_enter Try.func71, Try.ntmps71
  go_wp2_with (go_at_call 92; (with_reducible refine C.out.mono ?_); rintro e w1 ⟨z, rfl, hz, g1⟩; have HZ := Lib.hid hz; clear hz)
  go_ret
  rw [← HZ.out]
  exact ⟨rfl, g1⟩

theorem cf72 (args : Array Value) (wz : World) : (callFunc 72 args).run Try.prog wz = .ok (.enter 72 args) wz := by kernel_rfl
theorem cf74 (args : Array Value) (wz : World) : (callFunc 74 args).run Try.prog wz = .ok (.enter 74 args) wz := by kernel_rfl

theorem Valid2_any (x y : Int) (bs : Nat) (a : Option Addr) (n c : Nat) (X Y : Nat → Int) (w : World) (hp : 1 ≤ n) (hr : RdM w a n X Y) (hb : w.cell? ⟨bs, 0, none⟩ = some (.slice a n c)) :
    Calls Try.prog 74 #[.agg #[.int .i64 x, .int .i64 y], .pointer (some ⟨bs, 0, none⟩)] w (RetB (x != X 0) w) := by
  have g0 := (Gr.refl w).alloc (.cells #[.int .i64 x, .int .i64 y] 56)
  obtain ⟨b, o, rfl, hc⟩ := (hr.gr g0).at hp
  obtain ⟨c1, c2⟩ := hc 0 hp
  rw [Nat.zero_mul, Nat.add_zero] at c1
  have hb' := g0.cell hb
  have i1 : (0 : Int) < (n : Int) := by omega
  clear hr hb hc c2 g0
  go_enter Try.func74, Try.ntmps74
  go_wp2_with fail
  go_quiet (fail)
  go_wp2_with fail
  go_ret
  exact ⟨rfl, ((Gr.refl w).alloc _).drewN _⟩

theorem vP_len {n : Nat} {X Y : Nat → Int} (h : ¬ (2 ≤ n ∧ n ≤ 12)) : vP n X Y = false := by
  rw [Bool.eq_false_iff]
  intro hv
  have := vP_iff.1 hv
  exact h ⟨this.two, this.few⟩
theorem vP_eq {n : Nat} {X Y : Nat → Int} (h1 : 2 ≤ n) (h2 : n ≤ 12) : vP n X Y = (!(anyP (fun j => !inPB (X j) (Y j)) n) && anyP (fun j => X j != X 0) n) := by
  unfold vP anyP
  rw [decide_eq_true h1, decide_eq_true h2, List.not_any_eq_all_not]
  simp

theorem Valid_any (a : Option Addr) (n c : Nat) (X Y : Nat → Int) (w : World) (hn : n ≤ 1000) (hr : RdM w a n X Y) :
    Calls Try.prog 28 #[.slice a n c] w (RetB (vP n X Y) w) := by
  have HR := Lib.hid hr
  have hmf : ∀ (fn : Fn) (first cap : Array Value) (w : World), (Instr.makeFunc fn first cap).run Try.prog w = .ok (.func fn first cap) w := fun _ _ _ _ => rfl
  have G0 := Lib.hid ((Gr.refl w).alloc (.cells #[.slice a n c] 22))
  have cb := ((Gr.refl (w.alloc (.cells #[.slice a n c] 22))).fresh' (b := w.heap.size) (j := 0) (v := .slice a n c) rfl rfl).1
  clear hr
  by_cases h : 2 ≤ n ∧ n ≤ 12
  · obtain ⟨h1, h2⟩ := h
    have B := Lib.hid (show btw 2 n 12 = true from btw_true.2 ⟨by omega, by omega⟩)
    have E := Lib.hid (vP_eq (X := X) (Y := Y) h1 h2)
    have CB := Lib.hid cb
    have C1 := Lib.hid (ContainsFuncA_any 72 cf72 (fun j => !inPB (X j) (Y j)) a n c X Y _ hn (HR.out.gr G0.out) (Lib.hid fun j _ wz _ => Valid1_any (X j) (Y j) wz))
    have C2 := Lib.hid (fun w' (g : Gr (w.alloc (.cells #[.slice a n c] 22)) w') => ContainsFuncB_any 74 (.pointer (some ⟨w.heap.size, 0, none⟩)) cf74 (fun j => X j != X 0) a n c X Y w' hn ((HR.out.gr G0.out).gr g) (Lib.hid fun j _ wz g2 => Valid2_any (X j) (Y j) w.heap.size a n c X Y wz (by omega) (((HR.out.gr G0.out).gr g).gr g2) (g2.cell (g.cell CB.out))))
    clear cb
    cases h3 : anyP (fun j => !inPB (X j) (Y j)) n with
    | true =>
      have E2 := Lib.hid (show vP n X Y = false by rw [E.out, h3]; rfl)
      rw [h3] at C1
      have cb := CB.out
      clear h3 C2 E CB
      go_enter Try.func28, Try.ntmps28
      go_wp2_with (first
        | (go_at_call 70; (with_reducible refine (between_any 2 n 12 _).mono ?_); rintro e w1 ⟨rfl, rfl⟩; rw [B.out])
        | (go_at_call 71; (with_reducible refine C1.out.mono ?_); rintro e w2 ⟨rfl, g1⟩))
      go_ret
      rw [E2.out]
      exact ⟨rfl, G0.out.trans g1⟩
    | false =>
      have E2 := Lib.hid (show vP n X Y = anyP (fun j => X j != X 0) n by rw [E.out, h3]; rfl)
      rw [h3] at C1
      have cb := CB.out
      clear h3 E
      go_enter Try.func28, Try.ntmps28
      go_wp2_with (first
        | (go_at_call 70; (with_reducible refine (between_any 2 n 12 _).mono ?_); rintro e w1 ⟨rfl, rfl⟩; rw [B.out])
        | (go_at_call 71; (with_reducible refine C1.out.mono ?_); rintro e w2 ⟨rfl, g1⟩; have cb2 := g1.cell CB.out; have G1 := Lib.hid g1; clear g1 cb)
        | (go_at_call 71; (with_reducible refine (C2.out _ G1.out).mono ?_); rintro e w3 ⟨rfl, g2⟩))
      go_ret
      rw [E2.out]
      exact ⟨rfl, (G0.out.trans G1.out).trans g2⟩
  · have B := Lib.hid (show btw 2 n 12 = false from btw_false.2 (by omega))
    have E := Lib.hid (vP_len (X := X) (Y := Y) h)
    clear h
    go_enter Try.func28, Try.ntmps28
    go_wp2_with (go_at_call 70; (with_reducible refine (between_any 2 n 12 _).mono ?_); rintro e w1 ⟨rfl, rfl⟩; rw [B.out])
    go_ret
    rw [E.out]
    exact ⟨rfl, G0.out⟩

end Go.Proofs.Ytbhndfnfohoidaa

namespace Go.Proofs.Ytbhndfnfohoidaa
open Go.RowKit Go.Firn

theorem vP_bad {n k : Nat} {X Y : Nat → Int} (hk : k < n) (h : inPB (X k) (Y k) = false) : vP n X Y = false := by
  rw [Bool.eq_false_iff]
  intro hv
  have := inPB_iff.2 ((vP_iff.1 hv).ok k hk)
  rw [h] at this; cases this
theorem vP_end {n : Nat} {X Y : Nat → Int} (h1 : 2 ≤ n) (h2 : n ≤ 12) (h : ∀ i, i < n → inPB (X i) (Y i) = true) : vP n X Y = anyP (fun j => X j != X 0) n := by
  unfold vP anyP
  rw [decide_eq_true h1, decide_eq_true h2]
  have : ((List.range n).all fun i => inPB (X i) (Y i)) = true := by rw [List.all_eq_true]; intro i hi; exact h i (List.mem_range.1 hi)
  rw [this]
  rfl

set_option maxHeartbeats 1000000 in
theorem refValid_any (a : Option Addr) (n c : Nat) (X Y : Nat → Int) (w : World) (hn : n ≤ 1000) (hr : RdM w a n X Y) :
    Calls Try.prog 29 #[.slice a n c] w (RetB (vP n X Y) w) := by
  have HR := Lib.hid hr
  clear hr
  by_cases h : 2 ≤ n ∧ n ≤ 12
  · obtain ⟨h1, h2⟩ := h
    have d1 : ¬ (n : Int) < 2 := by omega
    have d2 : ¬ (12 : Int) < (n : Int) := by omega
    have N0 := Lib.hid (show 0 < n by omega)
    have H1 := Lib.hid h1
    have H2 := Lib.hid h2
    go_enter Try.func29, Try.ntmps29
    go_wp2_with fail
    clear d1 d2 h1 h2
    go_loopw [3, 16] (fun st sk wr => ∃ k : Nat, k ≤ n ∧ sk = .int .i64 k ∧ st = .bool (anyP (fun j => X j != X 0) k) ∧ Hid (∀ i, i < k → inPB (X i) (Y i) = true) ∧ Gr w wr) (fun _ sk _ => n - (intOf sk).toNat)
    case atStart => exact ⟨0, Nat.zero_le _, rfl, rfl, fun i hi => by omega, Gr.refl _⟩
    case round =>
      obtain ⟨k, hk, rfl, rfl, Hi, hg⟩ := hrel
      by_cases hlt : k < n
      · have R := Lib.hid (HR.out.gr hg)
        obtain ⟨b, o, ea, hc⟩ := (HR.out.gr hg).at hlt
        subst ea
        obtain ⟨c1, c2⟩ := hc k hlt
        obtain ⟨c0, _⟩ := hc 0 N0.out
        rw [Nat.zero_mul, Nat.add_zero] at c0
        have C0 := Lib.hid c0
        have i1 : (k : Int) < n := by omega
        have n0 : (0 : Int) < n := by omega
        have G1 := Lib.hid ((Gr.refl wr).alloc (.cells #[.int .i64 (X k), .int .i64 (Y k)] 56))
        have S := Lib.hid (anyP_succ (fun j => X j != X 0) k)
        have C := Lib.hid (fun w' => IsPoint_any (X k) (Y k) w')
        cases hp : inPB (X k) (Y k) with
        | false =>
          have E := Lib.hid (vP_bad hlt hp)
          rw [hp] at C
          clear hc c0 hp
          go_wp2_with (go_at_call 56; (with_reducible refine (C.out _).mono ?_); rintro e w1 ⟨rfl, g1⟩)
          go_ret
          rw [E.out]
          exact ⟨rfl, (hg.trans G1.out).trans g1⟩
        | true =>
          have HI := Lib.hid (show ∀ i, i < k + 1 → inPB (X i) (Y i) = true from fun i hi => by
            by_cases e : i = k
            · subst e; exact hp
            · exact Hi.out i (by omega))
          rw [hp] at C
          clear hc c0 hp
          cases ht : anyP (fun j => X j != X 0) k with
          | true =>
            have S' := Lib.hid (show anyP (fun j => X j != X 0) (k + 1) = true by rw [S.out, ht]; rfl)
            clear ht S
            go_wp2_with (go_at_call 56; (with_reducible refine (C.out _).mono ?_); rintro e w1 ⟨rfl, g1⟩)
            go_quiet (fail)
            go_wp2_with fail
            go_roundw
            case rel => exact ⟨k + 1, by omega, by go_num, by rw [S'.out], HI, ((hg.trans G1.out).trans g1).drewN _⟩
            case measure => simp [intOf]; omega
          | false =>
            have S' := Lib.hid (show anyP (fun j => X j != X 0) (k + 1) = (X k != X 0) by rw [S.out, ht]; rfl)
            clear ht S
            go_wp2_with (go_at_call 56; (with_reducible refine (C.out _).mono ?_); rintro e w1 ⟨rfl, g1⟩; have x0 := (G1.out.trans g1).cell C0.out; have x1 := (g1.fresh' (b := wr.heap.size) (j := 0) (v := .int .i64 (X k)) rfl rfl).1)
            go_quiet (fail)
            go_wp2_with fail
            go_roundw
            case rel => exact ⟨k + 1, by omega, by go_num, by rw [S'.out], HI, ((hg.trans G1.out).trans g1).drewN _⟩
            case measure => simp [intOf]; omega
      · obtain rfl : k = n := by omega
        have E := Lib.hid (vP_end H1.out H2.out Hi.out)
        go_wp2_with fail
        go_ret
        rw [E.out]
        exact ⟨rfl, hg⟩
  · have E := Lib.hid (vP_len (X := X) (Y := Y) h)
    by_cases h1 : n < 2
    · have d1 : (n : Int) < 2 := by omega
      clear h
      go_enter Try.func29, Try.ntmps29
      go_wp2_with fail
      go_ret
      rw [E.out]
      exact ⟨rfl, Gr.refl _⟩
    · have d1 : ¬ (n : Int) < 2 := by omega
      have d2 : (12 : Int) < (n : Int) := by omega
      clear h h1
      go_enter Try.func29, Try.ntmps29
      go_wp2_with fail
      go_ret
      rw [E.out]
      exact ⟨rfl, Gr.refl _⟩

theorem Long_any (a : Option Addr) (n c : Nat) (w : World) (hn : n ≤ 9223372036854775807) :
    Calls Try.prog 15 #[.slice a n c] w fun e w' => e = .returned (.bool (decide (60 < n))) ∧ w = w' := by
  by_cases h : 60 < n
  · have d1 : (60 : Int) < n := by omega
    have e : decide (60 < n) = true := by simpa using h
    rw [e]
    clear h
    go_enter Try.func15, Try.ntmps15
    go_wp2
    go_ret
    exact ⟨rfl, rfl⟩
  · have d1 : ¬ (60 : Int) < n := by omega
    have e : decide (60 < n) = false := by simpa using h
    rw [e]
    clear h
    go_enter Try.func15, Try.ntmps15
    go_wp2
    go_ret
    exact ⟨rfl, rfl⟩

end Go.Proofs.Ytbhndfnfohoidaa
