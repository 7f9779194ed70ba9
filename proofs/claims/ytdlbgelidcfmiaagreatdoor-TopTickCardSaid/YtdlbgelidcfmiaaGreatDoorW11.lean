/- Contracts of chapter 1: which clocks are valid. -/
import Derived.Test.YtdlbgelidcfmiaaGreatDoorW10
import Derived.Test.YtdlbgelidcfmiaaGreatDoorP5
import Derived.Test.YtdlbgelidcfmiaaGreatDoorCorm
namespace Go.Proofs.YtdlbgelidcfmiaaGreatDoor
open Go.RowKit Go.Firn

theorem between_any' (a n b : Int) (w : World) :
    Calls Tryz.prog 38 #[.int .i64 a, .int .i64 n, .int .i64 b] w fun e w' => e = .returned (.bool (btw a n b)) ∧ w' = w :=
  (between_any a n b w).mono fun _ _ ⟨h, e⟩ => ⟨h, e.symm⟩

theorem IsTick_any (n : Int) (w : World) :
    Calls Tryz.prog 26 #[.int .i64 n] w fun e w' => e = .returned (.bool (btw 0 n 100000)) ∧ w = w' := by
  by_cases h1 : 0 ≤ n
  · have e : btw 0 n 100000 = decide (n ≤ 100000) := by simp [btw, h1]
    go_enter Tryz.func26, Tryz.ntmps26
    go_wp2
    go_ret
    simp [e]
  · have e := Lib.hid (show btw 0 n 100000 = false by simp [btw, h1])
    go_enter Tryz.func26, Tryz.ntmps26
    go_wp2
    go_ret
    simp [e.out]
theorem IsTick_any' (n : Int) (w : World) :
    Calls Tryz.prog 26 #[.int .i64 n] w fun e w' => e = .returned (.bool (btw 0 n 100000)) ∧ w' = w :=
  (IsTick_any n w).mono fun _ _ ⟨h, e⟩ => ⟨h, e.symm⟩

theorem between_v {a n b : Int} {v : Bool} (h : btw a n b = v) (w : World) :
    Calls Tryz.prog 38 #[.int .i64 a, .int .i64 n, .int .i64 b] w fun e w' => e = .returned (.bool v) ∧ w' = w := by
  subst h; exact between_any' a n b w
theorem IsTick_v {n : Int} {v : Bool} (h : btw 0 n 100000 = v) (w : World) :
    Calls Tryz.prog 26 #[.int .i64 n] w fun e w' => e = .returned (.bool v) ∧ w' = w := by
  subst h; exact IsTick_any' n w

theorem isLocal_any (n : Int) (w : World) :
    Calls Tryz.prog 42 #[.int .i64 n] w fun e w' => e = .returned (.bool (btw 0 n 100000)) ∧ w = w' := by
  go_enter Tryz.func42, Tryz.ntmps42
  go_wp2_with (go_at_call 38; refine (between_any _ _ _ _).mono ?_; rintro e w' ⟨rfl, rfl⟩)
  go_ret
  exact ⟨rfl, rfl⟩

theorem Long_any (a : Option Addr) (n c : Nat) (w : World) (hn : n ≤ 9223372036854775807) :
    Calls Tryz.prog 4 #[.slice a n c] w fun e w' => e = .returned (.bool (decide (100 < n))) ∧ w = w' := by
  go_enter Tryz.func4, Tryz.ntmps4
  go_wp2
  go_ret
  simp
  omega

set_option maxRecDepth 100000 in
theorem ValidClock_any (a : Option Addr) (n c : Nat) (L T : Nat → Int) (w : World) (hn : n ≤ 9223372036854775807) (hr : RdM w a n L T) :
    Calls Tryz.prog 27 #[.slice a n c] w (RetB (vK n L T) w) := by
  go_enter Tryz.func27, Tryz.ntmps27
  go_wp2
  go_loopw [3, 4, 7] (fun _ _ i wr => ∃ k : Nat, k ≤ n ∧ i = .int .i64 k ∧ Hid (∀ i, i < k → 0 ≤ L i ∧ L i ≤ 100000 ∧ 0 ≤ T i ∧ T i ≤ 100000) ∧ Hid (∀ i, i + 1 < k → L i < L (i + 1) ∧ T i < T (i + 1)) ∧ Gr w wr) (fun _ _ i _ => n - (intOf i).toNat)
  case atStart => exact ⟨0, by omega, rfl, fun i hi => by omega, fun i hi => by omega, Gr.refl _⟩
  case round =>
    obtain ⟨k, hk, rfl, H1, H2, hg⟩ := hrel
    by_cases hlt : k < n
    · obtain ⟨b, o, rfl, hc⟩ := hr.at hlt
      have c1 := hg.cell (hc k hlt).1
      have c2 := hg.cell (hc k hlt).2
      have i3 : (0 : Int) ≤ (k : Int) := by omega
      have i4 : (k : Int) < n := by omega
      cases t1 : btw 0 (L k) 100000 with
      | false =>
        have E := Lib.hid (show vK n L T = false from vK_false_of hlt (.inl t1))
        have T1 := Lib.hid t1
        have T2 := Lib.hid t1
        clear hc hr t1
        go_wp2
        go_quiet (((first | (go_at_call 38; with_reducible exact Calls.quiet_of_same (between_v T1.out _)) | (go_at_call 38; with_reducible exact Calls.quiet_of_same (between_v T2.out _)))))
        go_wp2
        go_ret
        rw [E.out]; exact ⟨rfl, (hg.alloc _).drewN _⟩
      | true =>
        cases t2 : btw 0 (T k) 100000 with
        | false =>
          have E := Lib.hid (show vK n L T = false from vK_false_of hlt (.inr (.inl t2)))
          have T1 := Lib.hid t1
          have T2 := Lib.hid t2
          clear hc hr t1 t2
          go_wp2
          go_quiet (((first | (go_at_call 38; with_reducible exact Calls.quiet_of_same (between_v T1.out _)) | (go_at_call 38; with_reducible exact Calls.quiet_of_same (between_v T2.out _)))))
          go_wp2
          go_ret
          rw [E.out]; exact ⟨rfl, (hg.alloc _).drewN _⟩
        | true =>
          have T1 := Lib.hid t1
          have T2 := Lib.hid t2
          clear t1 t2
          by_cases t3 : 0 < k
          · have c3 := (hg.alloc (.cells #[.int .i64 (L k), .int .i64 (T k)] 55)).cell (hc (k - 1) (by omega)).1
            have c4 := (hg.alloc (.cells #[.int .i64 (L k), .int .i64 (T k)] 55)).cell (hc (k - 1) (by omega)).2
            clear hc hr
            have i5 : (0 : Int) < (k : Int) := by omega
            have i5' : (1 : Int) ≤ (k : Int) := by omega
            have i6 : (0 : Int) ≤ (k : Int) - 1 := by omega
            have i7 : (k : Int) - 1 < n := by omega
            have i8 : IntKind.i64.wrap ((k : Int) - 1) = (k : Int) - 1 := IntWalk.i64_in _ (by omega)
            have i9 : ((k : Int) - 1).toNat = k - 1 := by omega
            by_cases t4 : L k ≤ L (k - 1)
            · have E := Lib.hid (show vK n L T = false from vK_false_of hlt (.inr (.inr ⟨k - 1, by omega, .inl t4⟩)))
              go_wp2
              go_quiet (((first | (go_at_call 38; with_reducible exact Calls.quiet_of_same (between_v T1.out _)) | (go_at_call 38; with_reducible exact Calls.quiet_of_same (between_v T2.out _)))))
              go_wp2
              go_ret
              rw [E.out]; exact ⟨rfl, (hg.alloc _).drewN _⟩
            · have t4' : decide (L k ≤ L (k - 1)) = false := by simpa using t4
              by_cases t5 : T k ≤ T (k - 1)
              · have E := Lib.hid (show vK n L T = false from vK_false_of hlt (.inr (.inr ⟨k - 1, by omega, .inr t5⟩)))
                clear t4
                go_wp2
                go_quiet (((first | (go_at_call 38; with_reducible exact Calls.quiet_of_same (between_v T1.out _)) | (go_at_call 38; with_reducible exact Calls.quiet_of_same (between_v T2.out _)))))
                go_wp2
                go_ret
                rw [E.out]; exact ⟨rfl, (hg.alloc _).drewN _⟩
              · have t5' : decide (T k ≤ T (k - 1)) = false := by simpa using t5
                have H1' : Hid (∀ i, i < k + 1 → 0 ≤ L i ∧ L i ≤ 100000 ∧ 0 ≤ T i ∧ T i ≤ 100000) := fun i hi => by
                  by_cases e : i = k
                  · subst e; have := btw_true.1 T1.out; have := btw_true.1 T2.out; omega
                  · exact H1.out i (by omega)
                have H2' : Hid (∀ i, i + 1 < k + 1 → L i < L (i + 1) ∧ T i < T (i + 1)) := fun i hi => by
                  by_cases e : i + 1 = k
                  · subst e; simp only [Nat.add_sub_cancel] at t4 t5; omega
                  · exact H2.out i (by omega)
                clear t4 t5
                go_wp2
                go_quiet (((first | (go_at_call 38; with_reducible exact Calls.quiet_of_same (between_v T1.out _)) | (go_at_call 38; with_reducible exact Calls.quiet_of_same (between_v T2.out _)))))
                go_wp2
                go_roundw
                case rel => exact ⟨k + 1, by omega, by go_num, H1', H2', (hg.alloc _).drewN _⟩
                case measure => simp [intOf]; omega
          · have hk0 : k = 0 := by omega
            clear hc hr
            have i5 : ¬ (0 : Int) < (k : Int) := by omega
            have i6 : decide ((0 : Int) < (k : Int)) = false := by simpa using i5
            have H1' : Hid (∀ i, i < k + 1 → 0 ≤ L i ∧ L i ≤ 100000 ∧ 0 ≤ T i ∧ T i ≤ 100000) := fun i hi => by
              obtain rfl : i = k := by omega
              have := btw_true.1 T1.out; have := btw_true.1 T2.out; omega
            have H2' : Hid (∀ i, i + 1 < k + 1 → L i < L (i + 1) ∧ T i < T (i + 1)) := fun i hi => by omega
            have K0 := Lib.hid hk0
            clear hk0 i5
            go_wp2
            go_quiet (((first | (go_at_call 38; with_reducible exact Calls.quiet_of_same (between_v T1.out _)) | (go_at_call 38; with_reducible exact Calls.quiet_of_same (between_v T2.out _)))))
            go_wp2
            go_roundw
            case rel => exact ⟨k + 1, by omega, by go_num, H1', H2', (hg.alloc _).drewN _⟩
            case measure => simp [intOf]; omega
    · have : k = n := by omega
      subst this
      have E := Lib.hid (show vK k L T = btw 2 k 30 by
        rw [Bool.eq_iff_iff, vK_true, btw_true]
        exact ⟨fun h => by omega, fun h => ⟨by omega, by omega, H1.out, H2.out⟩⟩)
      go_wp2_with (go_at_call 38; refine (between_any _ _ _ _).mono ?_; rintro e w' ⟨rfl, rfl⟩)
      go_ret
      rw [E.out]; exact ⟨rfl, hg⟩

set_option maxRecDepth 100000 in
theorem refValidClock_any (a : Option Addr) (n c : Nat) (L T : Nat → Int) (w : World) (hn : n ≤ 9223372036854775807) (hr : RdM w a n L T) :
    Calls Tryz.prog 10 #[.slice a n c] w (RetB (vK n L T) w) := by
  go_enter Tryz.func10, Tryz.ntmps10
  go_wp2
  go_loopw [3, 4, 7] (fun _ _ i wr => ∃ k : Nat, k ≤ n ∧ i = .int .i64 k ∧ Hid (∀ i, i < k → 0 ≤ L i ∧ L i ≤ 100000 ∧ 0 ≤ T i ∧ T i ≤ 100000) ∧ Hid (∀ i, i + 1 < k → L i < L (i + 1) ∧ T i < T (i + 1)) ∧ Gr w wr) (fun _ _ i _ => n - (intOf i).toNat)
  case atStart => exact ⟨0, by omega, rfl, fun i hi => by omega, fun i hi => by omega, Gr.refl _⟩
  case round =>
    obtain ⟨k, hk, rfl, H1, H2, hg⟩ := hrel
    by_cases hlt : k < n
    · obtain ⟨b, o, rfl, hc⟩ := hr.at hlt
      have c1 := hg.cell (hc k hlt).1
      have c2 := hg.cell (hc k hlt).2
      have i3 : (0 : Int) ≤ (k : Int) := by omega
      have i4 : (k : Int) < n := by omega
      cases t1 : btw 0 (L k) 100000 with
      | false =>
        have E := Lib.hid (show vK n L T = false from vK_false_of hlt (.inl t1))
        have T1 := Lib.hid t1
        have T2 := Lib.hid t1
        clear hc hr t1
        go_wp2
        go_quiet (((first | (go_at_call 26; with_reducible exact Calls.quiet_of_same (IsTick_v T1.out _)) | (go_at_call 26; with_reducible exact Calls.quiet_of_same (IsTick_v T2.out _)))))
        go_wp2
        go_ret
        rw [E.out]; exact ⟨rfl, (hg.alloc _).drewN _⟩
      | true =>
        cases t2 : btw 0 (T k) 100000 with
        | false =>
          have E := Lib.hid (show vK n L T = false from vK_false_of hlt (.inr (.inl t2)))
          have T1 := Lib.hid t1
          have T2 := Lib.hid t2
          clear hc hr t1 t2
          go_wp2
          go_quiet (((first | (go_at_call 26; with_reducible exact Calls.quiet_of_same (IsTick_v T1.out _)) | (go_at_call 26; with_reducible exact Calls.quiet_of_same (IsTick_v T2.out _)))))
          go_wp2
          go_ret
          rw [E.out]; exact ⟨rfl, (hg.alloc _).drewN _⟩
        | true =>
          have T1 := Lib.hid t1
          have T2 := Lib.hid t2
          clear t1 t2
          by_cases t3 : 0 < k
          · have c3 := (hg.alloc (.cells #[.int .i64 (L k), .int .i64 (T k)] 55)).cell (hc (k - 1) (by omega)).1
            have c4 := (hg.alloc (.cells #[.int .i64 (L k), .int .i64 (T k)] 55)).cell (hc (k - 1) (by omega)).2
            clear hc hr
            have i5 : (0 : Int) < (k : Int) := by omega
            have i5' : (1 : Int) ≤ (k : Int) := by omega
            have i6 : (0 : Int) ≤ (k : Int) - 1 := by omega
            have i7 : (k : Int) - 1 < n := by omega
            have i8 : IntKind.i64.wrap ((k : Int) - 1) = (k : Int) - 1 := IntWalk.i64_in _ (by omega)
            have i9 : ((k : Int) - 1).toNat = k - 1 := by omega
            by_cases t4 : L k ≤ L (k - 1)
            · have E := Lib.hid (show vK n L T = false from vK_false_of hlt (.inr (.inr ⟨k - 1, by omega, .inl t4⟩)))
              go_wp2
              go_quiet (((first | (go_at_call 26; with_reducible exact Calls.quiet_of_same (IsTick_v T1.out _)) | (go_at_call 26; with_reducible exact Calls.quiet_of_same (IsTick_v T2.out _)))))
              go_wp2
              go_ret
              rw [E.out]; exact ⟨rfl, (hg.alloc _).drewN _⟩
            · have t4' : decide (L k ≤ L (k - 1)) = false := by simpa using t4
              by_cases t5 : T k ≤ T (k - 1)
              · have E := Lib.hid (show vK n L T = false from vK_false_of hlt (.inr (.inr ⟨k - 1, by omega, .inr t5⟩)))
                clear t4
                go_wp2
                go_quiet (((first | (go_at_call 26; with_reducible exact Calls.quiet_of_same (IsTick_v T1.out _)) | (go_at_call 26; with_reducible exact Calls.quiet_of_same (IsTick_v T2.out _)))))
                go_wp2
                go_ret
                rw [E.out]; exact ⟨rfl, (hg.alloc _).drewN _⟩
              · have t5' : decide (T k ≤ T (k - 1)) = false := by simpa using t5
                have H1' : Hid (∀ i, i < k + 1 → 0 ≤ L i ∧ L i ≤ 100000 ∧ 0 ≤ T i ∧ T i ≤ 100000) := fun i hi => by
                  by_cases e : i = k
                  · subst e; have := btw_true.1 T1.out; have := btw_true.1 T2.out; omega
                  · exact H1.out i (by omega)
                have H2' : Hid (∀ i, i + 1 < k + 1 → L i < L (i + 1) ∧ T i < T (i + 1)) := fun i hi => by
                  by_cases e : i + 1 = k
                  · subst e; simp only [Nat.add_sub_cancel] at t4 t5; omega
                  · exact H2.out i (by omega)
                clear t4 t5
                go_wp2
                go_quiet (((first | (go_at_call 26; with_reducible exact Calls.quiet_of_same (IsTick_v T1.out _)) | (go_at_call 26; with_reducible exact Calls.quiet_of_same (IsTick_v T2.out _)))))
                go_wp2
                go_roundw
                case rel => exact ⟨k + 1, by omega, by go_num, H1', H2', (hg.alloc _).drewN _⟩
                case measure => simp [intOf]; omega
          · have hk0 : k = 0 := by omega
            clear hc hr
            have i5 : ¬ (0 : Int) < (k : Int) := by omega
            have i6 : decide ((0 : Int) < (k : Int)) = false := by simpa using i5
            have H1' : Hid (∀ i, i < k + 1 → 0 ≤ L i ∧ L i ≤ 100000 ∧ 0 ≤ T i ∧ T i ≤ 100000) := fun i hi => by
              obtain rfl : i = k := by omega
              have := btw_true.1 T1.out; have := btw_true.1 T2.out; omega
            have H2' : Hid (∀ i, i + 1 < k + 1 → L i < L (i + 1) ∧ T i < T (i + 1)) := fun i hi => by omega
            have K0 := Lib.hid hk0
            clear hk0 i5
            go_wp2
            go_quiet (((first | (go_at_call 26; with_reducible exact Calls.quiet_of_same (IsTick_v T1.out _)) | (go_at_call 26; with_reducible exact Calls.quiet_of_same (IsTick_v T2.out _)))))
            go_wp2
            go_roundw
            case rel => exact ⟨k + 1, by omega, by go_num, H1', H2', (hg.alloc _).drewN _⟩
            case measure => simp [intOf]; omega
    · have : k = n := by omega
      subst this
      have E := Lib.hid (show vK k L T = btw 2 k 30 by
        rw [Bool.eq_iff_iff, vK_true, btw_true]
        exact ⟨fun h => by omega, fun h => ⟨by omega, by omega, H1.out, H2.out⟩⟩)
      by_cases g1 : 2 ≤ k
      · by_cases g2 : k ≤ 30
        · have E' := Lib.hid (show btw 2 k 30 = true from btw_true.2 ⟨by omega, by omega⟩)
          go_wp2_with fail
          go_ret
          rw [E.out, E'.out]; exact ⟨by simp; omega, hg⟩
        · have E' := Lib.hid (show btw 2 k 30 = false from btw_false.2 (by omega))
          go_wp2_with fail
          go_ret
          rw [E.out, E'.out]; exact ⟨by simp; omega, hg⟩
      · have E' := Lib.hid (show btw 2 k 30 = false from btw_false.2 (by omega))
        go_wp2_with fail
        go_ret
        rw [E.out, E'.out]; exact ⟨by simp, hg⟩

end Go.Proofs.YtdlbgelidcfmiaaGreatDoor
