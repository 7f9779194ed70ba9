/- Contracts of chapter 1: Readings and Steps of the program and of the reference. -/
import Derived.Test.YtdlbgelidcfmiaaW5
namespace Go.Proofs.Ytdlbgelidcfmiaa
open Go.RowKit Go.Firn

/-- The error of a list that must be counts. -/
def errC (v : Bool) : Int := if v then 0 else 10

set_option maxRecDepth 100000 in
theorem Readings_ok (b : Int) (a : Option Addr) (n c : Nat) (f : Nat → Int) (w : World) (hn : n ≤ 9223372036854775807) (hr : RdI w a n f) (hb : isBits b = true) (hv : vC n f = true) :
    Calls Try.prog 18 #[.int .i64 b, .slice a n c] w (RetIs n (fun k => f k % pw b) 0 w) := by
  have e0 := Lib.hid (show errOf b true = 0 by simp [errOf, hb])
  obtain ⟨n1, n2, hf, _⟩ := vC_true.1 hv
  obtain ⟨b1, b2⟩ := isBits_true.1 hb
  have Hf := Lib.hid hf
  have Hv := Lib.hid hv
  clear hf hv hb
  have p0 := pw_pos b
  have p1 := pw_le b2
  have hs := shl_pw b2
  go_enter Try.func18, Try.ntmps18
  go_wp2_with (first
    | (go_at_call 24; refine (ValidCounts_any a n c f _ hn hr).mono ?_; rintro e w' ⟨rfl, hg⟩; rw [Hv.out])
    | (go_at_call 57; refine (counted_any _ _ _).mono ?_; rintro e w' ⟨rfl, rfl⟩; rw [e0.out]))
  go_loopw [7, 9, 19] (fun out _ i wr => ∃ k : Nat, k ≤ n ∧ i = .int .i64 k ∧ OwnI w 3 wr out k (fun k => f k % pw b)) (fun _ _ i _ => n - (intOf i).toNat)
  case atStart => exact ⟨0, by omega, rfl, OwnI.nil' hg _ _⟩
  case round =>
    obtain ⟨k, hk, rfl, hown⟩ := hrel
    by_cases hlt : k < n
    · obtain ⟨bb, o, rfl, hc⟩ := hr.at hlt
      have hck := hown.2.cell (hc k hlt)
      clear hc hr
      have f0 := Hf.out k hlt
      obtain ⟨f1, f2⟩ := f0
      go_wp2_with (at_builtin; go_must (refine wpList_app_int rfl _ _ 22 3 rfl Try.underlying22 Try.info3 _ k _ rfl (hown.alloc _) _ _ rfl (cell_new1 _ _ _) rfl (by omega) ?_); intro v1 w1 hown1 _)
      go_roundw
      case rel => exact ⟨k + 1, by omega, by go_num, hown1⟩
      case measure => simp [intOf]; omega
    · have : k = n := by omega
      subst this
      go_wp2_with fail
      go_ret2
      exact hown.ret 0

theorem Readings_any (b : Int) (a : Option Addr) (n c : Nat) (f : Nat → Int) (w : World) (hn : n ≤ 9223372036854775807) (hr : RdI w a n f) :
    Calls Try.prog 18 #[.int .i64 b, .slice a n c] w (RetIs (nOf (isBits b && vC n f) n) (fun k => f k % pw b) (errOf b (vC n f)) w) := by
  cases hb : isBits b with
  | true =>
    cases hv : vC n f with
    | true =>
      have e0 : errOf b true = 0 := by simp [errOf, hb]
      rw [e0]
      exact Readings_ok b a n c f w hn hr hb hv
    | false =>
      have Hv := Lib.hid hv
      have e0 := Lib.hid (show errOf b false = 10 by simp [errOf, hb])
      clear hv hb
      rw [e0.out]
      go_enter Try.func18, Try.ntmps18
      go_wp2_with (first
        | (go_at_call 24; refine (ValidCounts_any a n c f _ hn hr).mono ?_; rintro e w' ⟨rfl, hg⟩; rw [Hv.out])
        | (go_at_call 57; refine (counted_any _ _ _).mono ?_; rintro e w' ⟨rfl, rfl⟩; rw [e0.out]))
      go_ret2
      exact ⟨none, 0, rfl, by simp [nOf], by unfold maxLen; omega, .inl rfl, hg⟩
  | false =>
    have e0 := Lib.hid (show ∀ v, errOf b v = 2 by intro v; simp [errOf, hb])
    clear hb
    rw [e0.out]
    go_enter Try.func18, Try.ntmps18
    go_wp2_with (first
      | (go_at_call 24; refine (ValidCounts_any a n c f _ hn hr).mono ?_; rintro e w' ⟨rfl, hg⟩)
      | (go_at_call 57; refine (counted_any _ _ _).mono ?_; rintro e w' ⟨rfl, rfl⟩; rw [e0.out]))
    go_ret2
    exact ⟨none, 0, rfl, by simp [nOf], by unfold maxLen; omega, .inl rfl, hg⟩

set_option maxRecDepth 100000 in
theorem refReadings_ok (b : Int) (a : Option Addr) (n c : Nat) (f : Nat → Int) (w : World) (hn : n ≤ 9223372036854775807) (hr : RdI w a n f) (hb : isBits b = true) (hv : vC n f = true) :
    Calls Try.prog 25 #[.int .i64 b, .slice a n c] w (RetIs n (fun k => f k % pw b) 0 w) := by
  obtain ⟨n1, n2, hf, _⟩ := vC_true.1 hv
  obtain ⟨b1, b2⟩ := isBits_true.1 hb
  have Hf := Lib.hid hf
  have Hv := Lib.hid hv
  have Hb := Lib.hid hb
  clear hf hv hb
  have p0 := pw_pos b
  have p1 := pw_le b2
  go_enter Try.func25, Try.ntmps25
  go_wp2_with (first
    | (go_at_call 16; refine (IsBits_any _ _).mono ?_; rintro e w' ⟨rfl, rfl⟩; rw [Hb.out])
    | (go_at_call 15; refine (refValidCounts_any a n c f _ hn hr).mono ?_; rintro e w' ⟨rfl, rfl⟩; rw [Hv.out]))
  go_loopw [6, 8, 17] (fun out _ i wr => ∃ k : Nat, k ≤ n ∧ i = .int .i64 k ∧ OwnI w 3 wr out k (fun k => f k % pw b)) (fun _ _ i _ => n - (intOf i).toNat)
  case atStart => exact ⟨0, by omega, rfl, OwnI.nil _ _ _⟩
  case round =>
    obtain ⟨k, hk, rfl, hown⟩ := hrel
    by_cases hlt : k < n
    · obtain ⟨bb, o, rfl, hc⟩ := hr.at hlt
      have hck := hown.2.cell (hc k hlt)
      clear hc hr
      have f0 := Hf.out k hlt
      obtain ⟨f1, f2⟩ := f0
      go_wp2_with (first
        | (go_at_call 60; refine (size_any _ _ b1 b2).mono ?_; rintro e w' ⟨rfl, rfl⟩)
        | (at_builtin; go_must (refine wpList_app_int rfl _ _ 22 3 rfl Try.underlying22 Try.info3 _ k _ rfl (hown.alloc _) _ _ rfl (cell_new1 _ _ _) rfl (by omega) ?_); intro v1 w1 hown1 _))
      go_roundw
      case rel => exact ⟨k + 1, by omega, by go_num, hown1⟩
      case measure => simp [intOf]; omega
    · have : k = n := by omega
      subst this
      go_wp2_with fail
      go_ret2
      exact hown.ret 0

theorem refReadings_any (b : Int) (a : Option Addr) (n c : Nat) (f : Nat → Int) (w : World) (hn : n ≤ 9223372036854775807) (hr : RdI w a n f) :
    Calls Try.prog 25 #[.int .i64 b, .slice a n c] w (RetIs (nOf (isBits b && vC n f) n) (fun k => f k % pw b) (errOf b (vC n f)) w) := by
  cases hb : isBits b with
  | true =>
    cases hv : vC n f with
    | true =>
      have e0 : errOf b true = 0 := by simp [errOf, hb]
      rw [e0]
      exact refReadings_ok b a n c f w hn hr hb hv
    | false =>
      have Hv := Lib.hid hv
      have Hb := Lib.hid hb
      have e0 := Lib.hid (show errOf b false = 10 by simp [errOf, hb])
      clear hv hb
      rw [e0.out]
      go_enter Try.func25, Try.ntmps25
      go_wp2_with (first
        | (go_at_call 16; refine (IsBits_any _ _).mono ?_; rintro e w' ⟨rfl, rfl⟩; rw [Hb.out])
        | (go_at_call 15; refine (refValidCounts_any a n c f _ hn hr).mono ?_; rintro e w' ⟨rfl, rfl⟩; rw [Hv.out]))
      go_ret2
      exact ⟨none, 0, rfl, by simp [nOf], by unfold maxLen; omega, .inl rfl, Gr.refl _⟩
  | false =>
    have e0 := Lib.hid (show ∀ v, errOf b v = 2 by intro v; simp [errOf, hb])
    have Hb := Lib.hid hb
    clear hb
    rw [e0.out]
    go_enter Try.func25, Try.ntmps25
    go_wp2_with (first
      | (go_at_call 16; refine (IsBits_any _ _).mono ?_; rintro e w' ⟨rfl, rfl⟩; rw [Hb.out]))
    go_ret2
    exact ⟨none, 0, rfl, by simp [nOf], by unfold maxLen; omega, .inl rfl, Gr.refl _⟩

set_option maxRecDepth 100000 in
theorem Steps_ok (a : Option Addr) (n c : Nat) (f : Nat → Int) (w : World) (hn : n ≤ 9223372036854775807) (hr : RdI w a n f) (hv : vC n f = true) :
    Calls Try.prog 26 #[.slice a n c] w (RetIs (n - 1) (fun k => f (k + 1) - f k) 0 w) := by
  obtain ⟨n1, n2, hf, _⟩ := vC_true.1 hv
  have Hf := Lib.hid hf
  have Hv := Lib.hid hv
  clear hf hv
  go_enter Try.func26, Try.ntmps26
  go_wp2_with (first
    | (go_at_call 24; refine (ValidCounts_any a n c f _ hn hr).mono ?_; rintro e w' ⟨rfl, hg⟩; rw [Hv.out]))
  obtain ⟨bb, o, rfl, hc⟩ := hr.at (k := 0) (by omega)
  have Hc := Lib.hid hc
  clear hc hr
  go_loopw [4, 5] (fun out i wr => ∃ k : Nat, k + 1 ≤ n ∧ i = .int .i64 ((k : Int) + 1) ∧ OwnI w 3 wr out k (fun k => f (k + 1) - f k)) (fun _ i _ => n - (intOf i).toNat)
  case atStart => exact ⟨0, by omega, rfl, OwnI.nil' hg _ _⟩
  case round =>
    obtain ⟨k, hk, rfl, hown⟩ := hrel
    by_cases hlt : k + 1 < n
    · have c1 := hown.2.cell (Hc.out (k + 1) hlt)
      have c2 := hown.2.cell (Hc.out k (by omega))
      have f0 := Hf.out k (by omega)
      have f1 := Hf.out (k + 1) hlt
      obtain ⟨f2, f3⟩ := f0
      obtain ⟨f4, f5⟩ := f1
      have i1 : (k : Int) + 1 < n := by omega
      have i0 : (0 : Int) ≤ (k : Int) + 1 := by omega
      have i3 : (0 : Int) ≤ (k : Int) := by omega
      have i4 : (k : Int) < n := by omega
      have k2 : IntKind.i64.wrap (k : Int) = (k : Int) := IntWalk.i64_in _ (by omega)
      have k1 : ((k : Int) + 1).toNat = k + 1 := by omega
      have k3 : IntKind.i64.wrap (f (k + 1) - f k) = f (k + 1) - f k := IntWalk.i64_in _ (by omega)
      go_wp2
      go_region_held3 (fun w' => w'.cell? ⟨bb, o + (k + 1), none⟩ = some (.int .i64 (f (k + 1))) ∧ w'.cell? ⟨bb, o + k, none⟩ = some (.int .i64 (f k)))
        (first | go_keep | exact ⟨hown1.2.cell (Hc.out (k + 1) hlt), hown1.2.cell (Hc.out k (by omega))⟩)
        ((go_must (refine step_app_int rfl _ _ 22 3 rfl Try.underlying22 Try.info3 _ k _ rfl (hown.alloc _).drew _ _ rfl (cell_new1d _ _ _) rfl (by omega) ?_); intro v1 w1 hown1 _))
      go_wp2
      go_roundw
      case rel => exact ⟨k + 1, by omega, by go_num, hown1⟩
      case measure => simp [intOf]; omega
    · have : n = k + 1 := by omega
      subst this
      go_wp2_with fail
      go_ret2
      exact hown.ret 0

theorem Steps_any (a : Option Addr) (n c : Nat) (f : Nat → Int) (w : World) (hn : n ≤ 9223372036854775807) (hr : RdI w a n f) :
    Calls Try.prog 26 #[.slice a n c] w (RetIs (nOf (vC n f) (n - 1)) (fun k => f (k + 1) - f k) (errC (vC n f)) w) := by
  cases hv : vC n f with
  | true => exact Steps_ok a n c f w hn hr hv
  | false =>
    have Hv := Lib.hid hv
    clear hv
    go_enter Try.func26, Try.ntmps26
    go_wp2_with (first
      | (go_at_call 24; refine (ValidCounts_any a n c f _ hn hr).mono ?_; rintro e w' ⟨rfl, hg⟩; rw [Hv.out]))
    go_ret2
    exact ⟨none, 0, rfl, by simp [nOf], by unfold maxLen; omega, .inl rfl, hg⟩

set_option maxRecDepth 100000 in
theorem refSteps_ok (a : Option Addr) (n c : Nat) (f : Nat → Int) (w : World) (hn : n ≤ 9223372036854775807) (hr : RdI w a n f) (hv : vC n f = true) :
    Calls Try.prog 27 #[.slice a n c] w (RetIs (n - 1) (fun k => f (k + 1) - f k) 0 w) := by
  obtain ⟨n1, n2, hf, _⟩ := vC_true.1 hv
  have Hf := Lib.hid hf
  have Hv := Lib.hid hv
  clear hf hv
  go_enter Try.func27, Try.ntmps27
  go_wp2_with (first
    | (go_at_call 15; refine (refValidCounts_any a n c f _ hn hr).mono ?_; rintro e w' ⟨rfl, rfl⟩; rw [Hv.out]))
  obtain ⟨bb, o, rfl, hc⟩ := hr.at (k := 0) (by omega)
  have Hc := Lib.hid hc
  clear hc hr
  go_loopw [4, 5] (fun out i wr => ∃ k : Nat, k + 1 ≤ n ∧ i = .int .i64 ((k : Int) + 1) ∧ OwnI w 3 wr out k (fun k => f (k + 1) - f k)) (fun _ i _ => n - (intOf i).toNat)
  case atStart => exact ⟨0, by omega, rfl, OwnI.nil _ _ _⟩
  case round =>
    obtain ⟨k, hk, rfl, hown⟩ := hrel
    by_cases hlt : k + 1 < n
    · have c1 := hown.2.cell (Hc.out (k + 1) hlt)
      have c2 := hown.2.cell (Hc.out k (by omega))
      have f0 := Hf.out k (by omega)
      have f1 := Hf.out (k + 1) hlt
      obtain ⟨f2, f3⟩ := f0
      obtain ⟨f4, f5⟩ := f1
      have i0 : (0 : Int) ≤ (k : Int) + 1 := by omega
      have i3 : (0 : Int) ≤ (k : Int) := by omega
      have i4 : (k : Int) < n := by omega
      have k2 : IntKind.i64.wrap (k : Int) = (k : Int) := IntWalk.i64_in _ (by omega)
      have i1 : (k : Int) + 1 < n := by omega
      have k1 : ((k : Int) + 1).toNat = k + 1 := by omega
      have k3 : IntKind.i64.wrap (f (k + 1) - f k) = f (k + 1) - f k := IntWalk.i64_in _ (by omega)
      go_wp2
      go_region_held3 (fun w' => w'.cell? ⟨bb, o + (k + 1), none⟩ = some (.int .i64 (f (k + 1))) ∧ w'.cell? ⟨bb, o + k, none⟩ = some (.int .i64 (f k)))
        (first | go_keep | exact ⟨hown1.2.cell (Hc.out (k + 1) hlt), hown1.2.cell (Hc.out k (by omega))⟩)
        ((go_must (refine step_app_int rfl _ _ 22 3 rfl Try.underlying22 Try.info3 _ k _ rfl (hown.alloc _).drew _ _ rfl (cell_new1d _ _ _) rfl (by omega) ?_); intro v1 w1 hown1 _))
      go_wp2
      go_roundw
      case rel => exact ⟨k + 1, by omega, by go_num, hown1⟩
      case measure => simp [intOf]; omega
    · have : n = k + 1 := by omega
      subst this
      go_wp2_with fail
      go_ret2
      exact hown.ret 0

theorem refSteps_any (a : Option Addr) (n c : Nat) (f : Nat → Int) (w : World) (hn : n ≤ 9223372036854775807) (hr : RdI w a n f) :
    Calls Try.prog 27 #[.slice a n c] w (RetIs (nOf (vC n f) (n - 1)) (fun k => f (k + 1) - f k) (errC (vC n f)) w) := by
  cases hv : vC n f with
  | true => exact refSteps_ok a n c f w hn hr hv
  | false =>
    have Hv := Lib.hid hv
    clear hv
    go_enter Try.func27, Try.ntmps27
    go_wp2_with (first
      | (go_at_call 15; refine (refValidCounts_any a n c f _ hn hr).mono ?_; rintro e w' ⟨rfl, rfl⟩; rw [Hv.out]))
    go_ret2
    exact ⟨none, 0, rfl, by simp [nOf], by unfold maxLen; omega, .inl rfl, Gr.refl _⟩

end Go.Proofs.Ytdlbgelidcfmiaa
