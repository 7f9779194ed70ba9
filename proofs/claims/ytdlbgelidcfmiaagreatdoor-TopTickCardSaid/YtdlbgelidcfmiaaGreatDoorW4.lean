/- Contracts of chapter 1: Counts, Readings, Steps, Rounds of the program and of the reference, SameInts, Awake. -/
import Derived.Test.YtdlbgelidcfmiaaGreatDoorW3
namespace Go.Proofs.YtdlbgelidcfmiaaGreatDoor
open Go.RowKit Go.Firn

theorem Tryz.info3 : (Tryz.prog.info? 3).map (fun i => (i.zero, i.size, i.bytes)) = some (some (.int .i64 0), 1, 8) := by kernel_rfl

set_option maxHeartbeats 400000 in
set_option maxRecDepth 100000 in
theorem Counts_ok (b : Int) (a : Option Addr) (n c : Nat) (f : Nat → Int) (w : World) (hn : n ≤ 9223372036854775807) (hr : RdI w a n f) (hv : vR b n f = true) :
    Calls Tryz.prog 6 #[.int .i64 b, .slice a n c] w (RetIs n (fun k => cst (pw b) f (k + 1)) 0 w) := by
  have e0 := Lib.hid (show errOf b (vR b n f) = 0 by obtain ⟨h1, h2, _⟩ := vR_true.1 hv; simp [errOf, hv, isBits_true.2 ⟨h1, h2⟩])
  obtain ⟨b1, b2, n1, n2, hf⟩ := vR_true.1 hv
  have Hf := Lib.hid hf
  have Hv := Lib.hid hv
  clear hf hv
  have p0 := pw_pos b
  have p1 := pw_le b2
  have hs := shl_pw b2
  go_enter Tryz.func6, Tryz.ntmps6
  go_wp2_with (first
    | (go_at_call 22; refine (ValidReadings_any b a n c f _ hn hr).mono ?_; rintro e w' ⟨rfl, hg⟩)
    | (go_at_call 21; refine (counted_any _ _ _).mono ?_; rintro e w' ⟨rfl, rfl⟩; rw [e0.out]))
  simp only [hs]
  have hr' := hr.gr hg
  go_loopw [8, 9, 11, 12, 25] (fun now out _ _ i wr => ∃ k : Nat, k ≤ n ∧ i = .int .i64 k ∧ now = .int .i64 (cst (pw b) f k) ∧ OwnI w 3 wr out k (fun k => cst (pw b) f (k + 1))) (fun _ _ _ _ i _ => n - (intOf i).toNat)
  case atStart => exact ⟨0, by omega, rfl, rfl, OwnI.nil' hg _ _⟩
  case round =>
    obtain ⟨k, hk, rfl, rfl, hown⟩ := hrel
    by_cases hlt : k < n
    · obtain ⟨bb, o, rfl, hc⟩ := hr.at hlt
      have hck := hown.2.cell (hc k hlt)
      clear hc hr hr'
      have f0 := Hf.out k hlt
      obtain ⟨f1, f2⟩ := f0
      obtain ⟨c0, c1⟩ := cst_bd p0 Hf.out k hk
      have c2 : (k : Int) * pw b ≤ 60 * pw b := Int.mul_le_mul_of_nonneg_right (by omega) (by omega)
      obtain ⟨d1, d2⟩ := div_mul_bd (now := cst (pw b) f k) p0
      have d0 := div_mul_nonneg p0 c0
      have d3 : 0 ≤ cst (pw b) f k / pw b := Int.ediv_nonneg c0 (by omega)
      by_cases ht : cst (pw b) f k / pw b * pw b + f k < cst (pw b) f k
      · have E := Lib.hid (show cst (pw b) f (k + 1) = cst (pw b) f k / pw b * pw b + f k + pw b by show cstep _ _ _ = _; rw [cstep, if_pos ht])
        go_wp2_with (at_builtin; go_must (refine wpList_app_int rfl _ _ 22 3 rfl Tryz.underlying22 Tryz.info3 _ k _ rfl (hown.alloc _) _ _ rfl (cell_new1 _ _ _) E.out (by omega) ?_); intro v1 w1 hown1 _)
        go_roundw
        case rel => exact ⟨k + 1, by omega, by go_num, by rw [E.out], hown1⟩
        case measure => simp [intOf]; omega
      · have E := Lib.hid (show cst (pw b) f (k + 1) = cst (pw b) f k / pw b * pw b + f k by show cstep _ _ _ = _; rw [cstep, if_neg ht])
        go_wp2_with (at_builtin; go_must (refine wpList_app_int rfl _ _ 22 3 rfl Tryz.underlying22 Tryz.info3 _ k _ rfl (hown.alloc _) _ _ rfl (cell_new1 _ _ _) E.out (by omega) ?_); intro v1 w1 hown1 _)
        go_roundw
        case rel => exact ⟨k + 1, by omega, by go_num, by rw [E.out], hown1⟩
        case measure => simp [intOf]; omega
    · have : k = n := by omega
      subst this
      go_wp2_with fail
      go_ret2
      exact hown.ret 0

/-- What Counts returns, for whatever arguments. -/
def nOf (v : Bool) (n : Nat) : Nat := if v then n else 0

theorem Counts_any (b : Int) (a : Option Addr) (n c : Nat) (f : Nat → Int) (w : World) (hn : n ≤ 9223372036854775807) (hr : RdI w a n f) :
    Calls Tryz.prog 6 #[.int .i64 b, .slice a n c] w (RetIs (nOf (vR b n f) n) (fun k => cst (pw b) f (k + 1)) (errOf b (vR b n f)) w) := by
  cases hv : vR b n f with
  | true =>
    have e0 : errOf b true = 0 := by obtain ⟨h1, h2, _⟩ := vR_true.1 hv; simp [errOf, isBits_true.2 ⟨h1, h2⟩]
    rw [e0]
    exact Counts_ok b a n c f w hn hr hv
  | false =>
    have Hv := Lib.hid hv
    clear hv
    by_cases hb : isBits b = true
    · have e0 := Lib.hid (show errOf b false = 10 by simp [errOf, hb])
      rw [e0.out]
      go_enter Tryz.func6, Tryz.ntmps6
      go_wp2_with (first
        | (go_at_call 22; refine (ValidReadings_any b a n c f _ hn hr).mono ?_; rintro e w' ⟨rfl, hg⟩; rw [Hv.out])
        | (go_at_call 21; refine (counted_any _ _ _).mono ?_; rintro e w' ⟨rfl, rfl⟩; rw [e0.out]))
      go_ret2
      exact ⟨none, 0, rfl, by simp [nOf], by unfold maxLen; omega, .inl rfl, hg⟩
    · have hb' : isBits b = false := by simpa using hb
      have e0 := Lib.hid (show errOf b false = 2 by simp [errOf, hb'])
      clear hb hb'
      rw [e0.out]
      go_enter Tryz.func6, Tryz.ntmps6
      go_wp2_with (first
        | (go_at_call 22; refine (ValidReadings_any b a n c f _ hn hr).mono ?_; rintro e w' ⟨rfl, hg⟩; rw [Hv.out])
        | (go_at_call 21; refine (counted_any _ _ _).mono ?_; rintro e w' ⟨rfl, rfl⟩; rw [e0.out]))
      go_ret2
      exact ⟨none, 0, rfl, by simp [nOf], by unfold maxLen; omega, .inl rfl, hg⟩

end Go.Proofs.YtdlbgelidcfmiaaGreatDoor
