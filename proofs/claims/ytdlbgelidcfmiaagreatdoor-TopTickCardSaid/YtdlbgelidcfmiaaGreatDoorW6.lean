/- Contracts of chapter 1: Readings and Steps of the program and of the reference. -/
import Derived.Test.YtdlbgelidcfmiaaGreatDoorW5
namespace Go.Proofs.YtdlbgelidcfmiaaGreatDoor
open Go.RowKit Go.Firn

/-- The error of a list that must be counts. -/
def errC (v : Bool) : Int := if v then 0 else 10

set_option maxRecDepth 100000 in
theorem Readings_ok (b : Int) (a : Option Addr) (n c : Nat) (f : Nat → Int) (w : World) (hn : n ≤ 9223372036854775807) (hr : RdI w a n f) (hb : isBits b = true) (hv : vC n f = true) :
    Calls Tryz.prog 8 #[.int .i64 b, .slice a n c] w (RetIs n (fun k => f k % pw b) 0 w) := by
  have e0 := Lib.hid (show errOf b true = 0 by simp [errOf, hb])
  obtain ⟨n1, n2, hf, _⟩ := vC_true.1 hv
  obtain ⟨b1, b2⟩ := isBits_true.1 hb
  have Hf := Lib.hid hf
  have Hv := Lib.hid hv
  clear hf hv hb
  have p0 := pw_pos b
  have p1 := pw_le b2
  have hs := shl_pw b2
  go_enter Tryz.func8, Tryz.ntmps8
  go_wp2_with (first
    | (go_at_call 25; refine (ValidCounts_any a n c f _ hn hr).mono ?_; rintro e w' ⟨rfl, hg⟩; rw [Hv.out])
    | (go_at_call 21; refine (counted_any _ _ _).mono ?_; rintro e w' ⟨rfl, rfl⟩; rw [e0.out]))
  go_loopw [7, 9, 19] (fun out _ i wr => ∃ k : Nat, k ≤ n ∧ i = .int .i64 k ∧ OwnI w 3 wr out k (fun k => f k % pw b)) (fun _ _ i _ => n - (intOf i).toNat)
  case atStart => exact ⟨0, by omega, rfl, OwnI.nil' hg _ _⟩
  case round =>
    obtain ⟨k, hk, rfl, hown⟩ := hrel
    by_cases hlt : k < n
    · obtain ⟨bb, o, rfl, hc⟩ := hr.at hlt
      have hck := hown.2.cell (hc k hlt)
      clear hc hr
      have f0 := Hf.out k hlt
      obtain ⟨f1, f2⟩ := f0
      go_wp2_with (at_builtin; go_must (refine wpList_app_int rfl _ _ 22 3 rfl Tryz.underlying22 Tryz.info3 _ k _ rfl (hown.alloc _) _ _ rfl (cell_new1 _ _ _) rfl (by omega) ?_); intro v1 w1 hown1 _)
      go_roundw
      case rel => exact ⟨k + 1, by omega, by go_num, hown1⟩
      case measure => simp [intOf]; omega
    · have : k = n := by omega
      subst this
      go_wp2_with fail
      go_ret2
      exact hown.ret 0

theorem Readings_any (b : Int) (a : Option Addr) (n c : Nat) (f : Nat → Int) (w : World) (hn : n ≤ 9223372036854775807) (hr : RdI w a n f) :
    Calls Tryz.prog 8 #[.int .i64 b, .slice a n c] w (RetIs (nOf (isBits b && vC n f) n) (fun k => f k % pw b) (errOf b (vC n f)) w) := by
  cases hb : isBits b with
  | true =>
    cases hv : vC n f with
    | true =>
      have e0 : errOf b true = 0 := by simp [errOf, hb]
      rw [e0]
      exact Readings_ok b a n c f w hn hr hb hv
    | false =>
      have Hv := Lib.hid hv
      have e0 := Lib.hid (show errOf b false = 10 by simp [errOf, hb])
      clear hv hb
      rw [e0.out]
      go_enter Tryz.func8, Tryz.ntmps8
      go_wp2_with (first
        | (go_at_call 25; refine (ValidCounts_any a n c f _ hn hr).mono ?_; rintro e w' ⟨rfl, hg⟩; rw [Hv.out])
        | (go_at_call 21; refine (counted_any _ _ _).mono ?_; rintro e w' ⟨rfl, rfl⟩; rw [e0.out]))
      go_ret2
      exact ⟨none, 0, rfl, by simp [nOf], by unfold maxLen; omega, .inl rfl, hg⟩
  | false =>
    have e0 := Lib.hid (show ∀ v, errOf b v = 2 by intro v; simp [errOf, hb])
    clear hb
    rw [e0.out]
    go_enter Tryz.func8, Tryz.ntmps8
    go_wp2_with (first
      | (go_at_call 25; refine (ValidCounts_any a n c f _ hn hr).mono ?_; rintro e w' ⟨rfl, hg⟩)
      | (go_at_call 21; refine (counted_any _ _ _).mono ?_; rintro e w' ⟨rfl, rfl⟩; rw [e0.out]))
    go_ret2
    exact ⟨none, 0, rfl, by simp [nOf], by unfold maxLen; omega, .inl rfl, hg⟩

end Go.Proofs.YtdlbgelidcfmiaaGreatDoor
