/- Contracts of chapter 1: Counts and Readings of the reference, Readings of the program, Steps of both. -/
import Derived.Test.YtdlbgelidcfmiaaW4
import Derived.Deep.RegionHeld3
namespace Go.Proofs.Ytdlbgelidcfmiaa
open Go.RowKit Go.Firn

set_option maxRecDepth 100000 in
theorem refCounts_ok (b : Int) (a : Option Addr) (n c : Nat) (f : Nat → Int) (w : World) (hn : n ≤ 9223372036854775807) (hr : RdI w a n f) (hv : vR b n f = true) :
    Calls Try.prog 22 #[.int .i64 b, .slice a n c] w (RetIs n (fun k => cst (pw b) f (k + 1)) 0 w) := by
  obtain ⟨b1, b2, n1, n2, hf⟩ := vR_true.1 hv
  have Hf := Lib.hid hf
  have Hb := Lib.hid (isBits_true.2 ⟨b1, b2⟩)
  have Hv := Lib.hid hv
  clear hf hv
  have p0 := pw_pos b
  have p1 := pw_le b2
  go_enter Try.func22, Try.ntmps22
  go_wp2_with (first
    | (go_at_call 16; refine (IsBits_any _ _).mono ?_; rintro e w' ⟨rfl, rfl⟩; rw [Hb.out])
    | (go_at_call 23; refine (refValidReadings_any b a n c f _ hn hr).mono ?_; rintro e w' ⟨rfl, rfl⟩; rw [Hv.out]))
  go_loopw [6, 7, 8, 9, 19] (fun out rounds _ _ i wr => ∃ k : Nat, k ≤ n ∧ i = .int .i64 k ∧ rounds = .int .i64 (dn f k) ∧ OwnI w 3 wr out k (fun k => cst (pw b) f (k + 1))) (fun _ _ _ _ i _ => n - (intOf i).toNat)
  case atStart => exact ⟨0, by omega, rfl, rfl, OwnI.nil _ _ _⟩
  case round =>
    obtain ⟨k, hk, rfl, rfl, hown⟩ := hrel
    by_cases hlt : k < n
    · obtain ⟨bb, o, rfl, hc⟩ := hr.at hlt
      have hck := hown.2.cell (hc k hlt)
      have f0 := Hf.out k hlt
      obtain ⟨f1, f2⟩ := f0
      obtain ⟨d0, d1⟩ := dn_bd f k
      have E := Lib.hid (cst_eq p0 Hf.out k hlt)
      have m0 : 0 ≤ dn f k * pw b := Int.mul_nonneg d0 (by omega)
      have m1 : dn f k * pw b ≤ 60 * pw b := Int.mul_le_mul_of_nonneg_right (by omega) (by omega)
      have m2 : 0 ≤ (dn f k + 1) * pw b := Int.mul_nonneg (by omega) (by omega)
      have m3 : (dn f k + 1) * pw b ≤ 61 * pw b := Int.mul_le_mul_of_nonneg_right (by omega) (by omega)
      by_cases hk0 : 0 < k
      · have hc1 := hown.2.cell (hc (k - 1) (by omega))
        clear hc hr
        have i1 : (0 : Int) ≤ (k : Int) - 1 := by omega
        have k1 : ((k : Int) - 1).toNat = k - 1 := by omega
        by_cases ht : f k < f (k - 1)
        · have D := Lib.hid (show dn f (k + 1) = dn f k + 1 by rw [dn, if_pos ⟨hk0, ht⟩])
          have E' := Lib.hid (show cst (pw b) f (k + 1) = (dn f k + 1) * pw b + f k by rw [E.out, D.out])
          go_wp2_with (first
            | (go_at_call 60; refine (size_any _ _ b1 b2).mono ?_; rintro e w' ⟨rfl, rfl⟩)
            | (at_builtin; go_must (refine wpList_app_int rfl _ _ 22 3 rfl Try.underlying22 Try.info3 _ k _ rfl (hown.alloc _) _ _ rfl (cell_new1 _ _ _) E'.out (by omega) ?_); intro v1 w1 hown1 _))
          go_roundw
          case rel => exact ⟨k + 1, by omega, by go_num, by rw [D.out], hown1⟩
          case measure => simp [intOf]; omega
        · have D := Lib.hid (show dn f (k + 1) = dn f k by rw [dn, if_neg (by omega)])
          have E' := Lib.hid (show cst (pw b) f (k + 1) = dn f k * pw b + f k by rw [E.out, D.out])
          go_wp2_with (first
            | (go_at_call 60; refine (size_any _ _ b1 b2).mono ?_; rintro e w' ⟨rfl, rfl⟩)
            | (at_builtin; go_must (refine wpList_app_int rfl _ _ 22 3 rfl Try.underlying22 Try.info3 _ k _ rfl (hown.alloc _) _ _ rfl (cell_new1 _ _ _) E'.out (by omega) ?_); intro v1 w1 hown1 _))
          go_roundw
          case rel => exact ⟨k + 1, by omega, by go_num, by rw [D.out], hown1⟩
          case measure => simp [intOf]; omega
      · clear hc hr
        have D := Lib.hid (show dn f (k + 1) = dn f k by rw [dn, if_neg (by omega)])
        have E' := Lib.hid (show cst (pw b) f (k + 1) = dn f k * pw b + f k by rw [E.out, D.out])
        go_wp2_with (first
          | (go_at_call 60; refine (size_any _ _ b1 b2).mono ?_; rintro e w' ⟨rfl, rfl⟩)
          | (at_builtin; go_must (refine wpList_app_int rfl _ _ 22 3 rfl Try.underlying22 Try.info3 _ k _ rfl (hown.alloc _) _ _ rfl (cell_new1 _ _ _) E'.out (by omega) ?_); intro v1 w1 hown1 _))
        go_roundw
        case rel => exact ⟨k + 1, by omega, by go_num, by rw [D.out], hown1⟩
        case measure => simp [intOf]; omega
    · have : k = n := by omega
      subst this
      go_wp2_with fail
      go_ret2
      exact hown.ret 0

theorem refCounts_any (b : Int) (a : Option Addr) (n c : Nat) (f : Nat → Int) (w : World) (hn : n ≤ 9223372036854775807) (hr : RdI w a n f) :
    Calls Try.prog 22 #[.int .i64 b, .slice a n c] w (RetIs (nOf (vR b n f) n) (fun k => cst (pw b) f (k + 1)) (errOf b (vR b n f)) w) := by
  cases hv : vR b n f with
  | true =>
    have e0 : errOf b true = 0 := by obtain ⟨h1, h2, _⟩ := vR_true.1 hv; simp [errOf, isBits_true.2 ⟨h1, h2⟩]
    rw [e0]
    exact refCounts_ok b a n c f w hn hr hv
  | false =>
    have Hv := Lib.hid hv
    clear hv
    cases hb : isBits b with
    | true =>
      have e0 := Lib.hid (show errOf b false = 10 by simp [errOf, hb])
      have Hb := Lib.hid hb
      clear hb
      rw [e0.out]
      go_enter Try.func22, Try.ntmps22
      go_wp2_with (first
        | (go_at_call 16; refine (IsBits_any _ _).mono ?_; rintro e w' ⟨rfl, rfl⟩; rw [Hb.out])
        | (go_at_call 23; refine (refValidReadings_any b a n c f _ hn hr).mono ?_; rintro e w' ⟨rfl, rfl⟩; rw [Hv.out]))
      go_ret2
      exact ⟨none, 0, rfl, by simp [nOf], by unfold maxLen; omega, .inl rfl, Gr.refl _⟩
    | false =>
      have e0 := Lib.hid (show errOf b false = 2 by simp [errOf, hb])
      have Hb := Lib.hid hb
      clear hb
      rw [e0.out]
      go_enter Try.func22, Try.ntmps22
      go_wp2_with (first
        | (go_at_call 16; refine (IsBits_any _ _).mono ?_; rintro e w' ⟨rfl, rfl⟩; rw [Hb.out]))
      go_ret2
      exact ⟨none, 0, rfl, by simp [nOf], by unfold maxLen; omega, .inl rfl, Gr.refl _⟩

end Go.Proofs.Ytdlbgelidcfmiaa
