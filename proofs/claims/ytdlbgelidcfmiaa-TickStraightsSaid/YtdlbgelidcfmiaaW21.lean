/- Contracts of chapter 1: Inverse and Moved of the reference, and Less of ratios. -/
import Derived.Test.YtdlbgelidcfmiaaW20
namespace Go.Proofs.Ytdlbgelidcfmiaa
open Go.RowKit Go.Firn

set_option maxRecDepth 100000 in
theorem refLess_any (N D N' D' : Int) (w : World) (h1 : -9223372036854775808 ≤ N * D' ∧ N * D' ≤ 9223372036854775807) (h2 : -9223372036854775808 ≤ N' * D ∧ N' * D ≤ 9223372036854775807) :
    Calls Try.prog 44 #[.agg #[.int .i64 N, .int .i64 D], .agg #[.int .i64 N', .int .i64 D']] w (RetB (decide (N * D' < N' * D)) w) := by
  have q1 : IntKind.i64.wrap (N * D') = N * D' := IntWalk.i64_in _ h1
  have q2 : IntKind.i64.wrap (N' * D) = N' * D := IntWalk.i64_in _ h2
  go_enter Try.func44, Try.ntmps44
  go_wp2_with fail
  go_ret
  exact ⟨rfl, ((Gr.refl w).alloc _).alloc _⟩

set_option maxRecDepth 100000 in
set_option maxHeartbeats 1000000 in
theorem refInverse_any (a : Option Addr) (n c : Nat) (L T : Nat → Int) (w : World) (hn : n ≤ 9223372036854775807) (hr : RdM w a n L T) :
    Calls Try.prog 48 #[.slice a n c] w (RetMs (okL (vK n L T) true (pairs n T L)) (okE (vK n L T) true) w) := by
  cases hv : vK n L T with
  | false =>
    have Hv := Lib.hid hv
    clear hv
    go_enter Try.func48, Try.ntmps48
    go_wp2_with fail
    refine (refValidClock_any a n c L T _ hn hr).mono ?_
    rintro e w1 ⟨rfl, g⟩
    rw [Hv.out]
    go_wp2_with fail
    go_ret2
    exact (OwnM.nil' g 64).ret 11
  | true =>
    have Hv := Lib.hid hv
    have hn30 := (vK_true.1 hv).2.1
    clear hv
    go_enter Try.func48, Try.ntmps48
    go_wp2_with fail
    refine (refValidClock_any a n c L T _ hn hr).mono ?_
    rintro e w1 ⟨rfl, g⟩
    rw [Hv.out]
    go_wp2_with fail
    go_loopw [4, 6, 12] (fun out _ i wr => ∃ k : Nat, k ≤ n ∧ i = .int .i64 k ∧ OwnM w 64 wr out (pairs k T L)) (fun _ _ i _ => n - (intOf i).toNat)
    case atStart => exact ⟨0, by omega, rfl, OwnM.nil' g _⟩
    case round =>
      obtain ⟨k, hk, rfl, hown⟩ := hrel
      by_cases hlt : k < n
      · obtain ⟨b, o, rfl, hc⟩ := hr.at hlt
        have c1 := hown.2.cell (hc k hlt).1
        have c2 := hown.2.cell (hc k hlt).2
        clear hc hr
        have i4 : (k : Int) < n := by omega
        have hl : (pairs k T L).length < 1000000000 := by rw [pairs_length]; omega
        go_wp2_with (at_builtin; go_must (refine wpList_app_pair rfl _ _ 35 64 rfl Try.underlying35 Try.info64 _ (pairs k T L) rfl ((hown.alloc _).alloc _) (wr.heap.size + 1) _ _ rfl (cell_new2' _ _ _ _ (by simp)) hl ?_); intro v1 w2 hown2 _)
        rw [← pairs_succ] at hown2
        go_roundw
        case rel => exact ⟨k + 1, by omega, by go_num, hown2⟩
        case measure => simp [intOf]; omega
      · have : k = n := by omega
        subst this
        go_wp2_with fail
        go_ret2
        exact hown.ret 0

theorem mvB_of {n : Nat} {T : Nat → Int} {x : Int} (h2 : 2 ≤ n) (h : ∀ j, j < n → ¬ x < -(T j) ∧ ¬ 100000 - T j < x) : mvB n T x = true := by
  have a := h 0 (by omega)
  have b := h (n - 1) (by omega)
  rw [mvB, btw_true]
  omega

set_option maxRecDepth 100000 in
set_option maxHeartbeats 1000000 in
theorem refMoved_any (a : Option Addr) (n c : Nat) (L T : Nat → Int) (x : Int) (w : World) (hn : n ≤ 9223372036854775807) (hr : RdM w a n L T) :
    Calls Try.prog 49 #[.slice a n c, .int .i64 x] w (RetMs (okL (vK n L T) (mvB n T x) (pairs n L (fun i => T i + x))) (okE (vK n L T) (mvB n T x)) w) := by
  cases hv : vK n L T with
  | false =>
    have Hv := Lib.hid hv
    clear hv
    go_enter Try.func49, Try.ntmps49
    go_wp2_with fail
    refine (refValidClock_any a n c L T _ hn hr).mono ?_
    rintro e w1 ⟨rfl, g⟩
    rw [Hv.out]
    go_wp2_with fail
    go_ret2
    exact (OwnM.nil' g 64).ret 11
  | true =>
    have Hv := Lib.hid hv
    obtain ⟨hn2, hn30, hB, _⟩ := vK_true.1 hv
    have AL := Lib.hid (fun (h : mvB n T x = true) (k : Nat) (hk : k < n) => mvB_all hv h hk)
    have HB := Lib.hid hB
    clear hv hB
    cases hm : mvB n T x with
    | true =>
      have AL' := Lib.hid (fun k hk => AL.out hm k hk)
      clear hm AL
      go_enter Try.func49, Try.ntmps49
      go_wp2_with fail
      refine (refValidClock_any a n c L T _ hn hr).mono ?_
      rintro e w1 ⟨rfl, g⟩
      rw [Hv.out]
      go_wp2_with fail
      go_loopw [6, 8, 14] (fun out _ i wr => ∃ k : Nat, k ≤ n ∧ i = .int .i64 k ∧ OwnM w 64 wr out (pairs k L (fun i => T i + x))) (fun _ _ i _ => n - (intOf i).toNat)
      case atStart => exact ⟨0, by omega, rfl, OwnM.nil' g _⟩
      case round =>
        obtain ⟨k, hk, rfl, hown⟩ := hrel
        by_cases hlt : k < n
        · obtain ⟨b, o, rfl, hc⟩ := hr.at hlt
          have c1 := hown.2.cell (hc k hlt).1
          have c2 := hown.2.cell (hc k hlt).2
          clear hc hr
          have i4 : (k : Int) < n := by omega
          have b1 := HB.out k hlt
          have b2 := AL'.out k hlt
          have i6 : IntKind.i64.wrap (-(T k)) = -(T k) := IntWalk.i64_in _ (by omega)
          have i7 : IntKind.i64.wrap (100000 - T k) = 100000 - T k := IntWalk.i64_in _ (by omega)
          have i8 : IntKind.i64.wrap (T k + x) = T k + x := IntWalk.i64_in _ (by omega)
          have d1 : decide (x < -(T k)) = false := by simp; omega
          have d2 : decide (100000 - T k < x) = false := by simp; omega
          clear b1 b2
          have hl : (pairs k L (fun i => T i + x)).length < 1000000000 := by rw [pairs_length]; omega
          go_wp2_with (at_builtin; go_must (refine wpList_app_pair rfl _ _ 35 64 rfl Try.underlying35 Try.info64 _ (pairs k L (fun i => T i + x)) rfl ((hown.alloc _).alloc _) (wr.heap.size + 1) _ _ rfl (cell_new2' _ _ _ _ (by simp)) hl ?_); intro v1 w2 hown2 _)
          rw [← pairs_succ k L (fun i => T i + x)] at hown2
          go_roundw
          case rel => exact ⟨k + 1, by omega, by go_num, hown2⟩
          case measure => simp [intOf]; omega
        · have : k = n := by omega
          subst this
          go_wp2_with fail
          go_ret2
          exact hown.ret 0
    | false =>
      have NO := Lib.hid (show ¬ ∀ j, j < n → ¬ x < -(T j) ∧ ¬ 100000 - T j < x from fun h => by rw [mvB_of hn2 h] at hm; cases hm)
      clear hm AL
      go_enter Try.func49, Try.ntmps49
      go_wp2_with fail
      refine (refValidClock_any a n c L T _ hn hr).mono ?_
      rintro e w1 ⟨rfl, g⟩
      rw [Hv.out]
      go_wp2_with fail
      go_loopw [6, 8, 14] (fun out _ i wr => ∃ k : Nat, k ≤ n ∧ i = .int .i64 k ∧ Hid (∀ j, j < k → ¬ x < -(T j) ∧ ¬ 100000 - T j < x) ∧ OwnM w 64 wr out (pairs k L (fun i => T i + x))) (fun _ _ i _ => n - (intOf i).toNat)
      case atStart => exact ⟨0, by omega, rfl, fun j hj => absurd hj (by omega), OwnM.nil' g _⟩
      case round =>
        obtain ⟨k, hk, rfl, AL, hown⟩ := hrel
        by_cases hlt : k < n
        · obtain ⟨b, o, rfl, hc⟩ := hr.at hlt
          have c1 := hown.2.cell (hc k hlt).1
          have c2 := hown.2.cell (hc k hlt).2
          clear hc hr
          have i4 : (k : Int) < n := by omega
          have b1 := HB.out k hlt
          have i6 : IntKind.i64.wrap (-(T k)) = -(T k) := IntWalk.i64_in _ (by omega)
          have i7 : IntKind.i64.wrap (100000 - T k) = 100000 - T k := IntWalk.i64_in _ (by omega)
          by_cases f1 : x < -(T k)
          · go_wp2_with fail
            go_ret2
            exact (OwnM.nil' (hown.2.alloc _) 64).ret 2
          · by_cases f2 : 100000 - T k < x
            · have d1 : decide (x < -(T k)) = false := by simp; omega
              have d2 : decide (100000 - T k < x) = true := by simp; omega
              clear f1 f2
              go_wp2_with fail
              go_ret2
              exact (OwnM.nil' (hown.2.alloc _) 64).ret 2
            · have i8 : IntKind.i64.wrap (T k + x) = T k + x := IntWalk.i64_in _ (by omega)
              have d1 : decide (x < -(T k)) = false := by simp; omega
              have d2 : decide (100000 - T k < x) = false := by simp; omega
              have AL2 : Hid (∀ j, j < k + 1 → ¬ x < -(T j) ∧ ¬ 100000 - T j < x) := Lib.hid fun j hj => by
                by_cases e : j = k
                · subst e; exact ⟨f1, f2⟩
                · exact AL.out j (by omega)
              clear b1 f1 f2
              have hl : (pairs k L (fun i => T i + x)).length < 1000000000 := by rw [pairs_length]; omega
              go_wp2_with (at_builtin; go_must (refine wpList_app_pair rfl _ _ 35 64 rfl Try.underlying35 Try.info64 _ (pairs k L (fun i => T i + x)) rfl ((hown.alloc _).alloc _) (wr.heap.size + 1) _ _ rfl (cell_new2' _ _ _ _ (by simp)) hl ?_); intro v1 w2 hown2 _)
              rw [← pairs_succ k L (fun i => T i + x)] at hown2
              go_roundw
              case rel => exact ⟨k + 1, by omega, by go_num, AL2, hown2⟩
              case measure => simp [intOf]; omega
        · have : k = n := by omega
          subst this
          exact (NO.out (fun j hj => by have := AL.out j hj; omega)).elim

end Go.Proofs.Ytdlbgelidcfmiaa
