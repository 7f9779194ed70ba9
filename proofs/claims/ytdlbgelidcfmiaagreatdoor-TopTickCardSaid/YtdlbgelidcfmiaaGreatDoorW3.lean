/- Contracts of chapter 1: ValidCounts of the program, ValidCounts and ValidReadings of the reference. -/
import Derived.Test.YtdlbgelidcfmiaaGreatDoorW2
namespace Go.Proofs.YtdlbgelidcfmiaaGreatDoor
open Go.RowKit Go.Firn

/-- Counts: as many as are let, each in range, none less than the one in front of it. -/
def vC (n : Nat) (f : Nat → Int) : Bool := btw 1 n 60 && !outB n f 1099511627776 && ascB n f
theorem vC_true {n : Nat} {f : Nat → Int} : vC n f = true ↔ 1 ≤ n ∧ n ≤ 60 ∧ (∀ i, i < n → 0 ≤ f i ∧ f i ≤ 1099511627776) ∧ ∀ i, i + 1 < n → f i ≤ f (i + 1) := by
  simp only [vC, Bool.and_eq_true, Bool.not_eq_true', btw_true, outB_false, ascB_true]
  constructor
  · rintro ⟨⟨⟨h1, h2⟩, h3⟩, h4⟩; exact ⟨by omega, by omega, h3, h4⟩
  · rintro ⟨h1, h2, h3, h4⟩; exact ⟨⟨⟨by omega, by omega⟩, h3⟩, h4⟩

theorem ValidCounts_any (a : Option Addr) (n c : Nat) (f : Nat → Int) (w : World) (hn : n ≤ 9223372036854775807) (hr : RdI w a n f) :
    Calls Tryz.prog 25 #[.slice a n c] w (RetB (vC n f) w) := by
  by_cases h1 : btw 1 n 60 = true
  · by_cases h2 : outB n f 1099511627776 = true
    · have E := Lib.hid (show vC n f = false by simp [vC, h2])
      go_enter Tryz.func25, Tryz.ntmps25
      go_wp2_with (first
        | (go_at_call 38; refine (between_any _ _ _ _).mono ?_; rintro e w' ⟨rfl, rfl⟩)
        | (go_at_call 47; refine (outside_any a n c f _ _ hn hr).mono ?_; rintro e w' ⟨rfl, hg⟩))
      go_ret
      rw [E.out]
      exact ⟨rfl, hg⟩
    · have h2' : outB n f 1099511627776 = false := by simpa using h2
      clear h2
      have E := Lib.hid (show vC n f = ascB n f by simp [vC, h1, h2'])
      go_enter Tryz.func25, Tryz.ntmps25
      go_wp2_with (first
        | (go_at_call 38; refine (between_any _ _ _ _).mono ?_; rintro e w' ⟨rfl, rfl⟩)
        | (go_at_call 47; refine (outside_any a n c f _ _ hn hr).mono ?_; rintro e w' ⟨rfl, hg⟩)
        | (go_at_call 48; refine (IsSorted_any a n c f _ hn (hr.gr hg)).mono ?_; rintro e w'' ⟨rfl, hg'⟩))
      go_ret
      rw [E.out]
      exact ⟨rfl, hg.trans hg'⟩
  · have h1' : btw 1 n 60 = false := by simpa using h1
    clear h1
    have E := Lib.hid (show vC n f = false by simp [vC, h1'])
    go_enter Tryz.func25, Tryz.ntmps25
    go_wp2_with (first
      | (go_at_call 38; refine (between_any _ _ _ _).mono ?_; rintro e w' ⟨rfl, rfl⟩))
    go_ret
    rw [E.out]
    exact ⟨rfl, Gr.refl _⟩

theorem vC_false_of {n k : Nat} {f : Nat → Int} (hk : k < n) (h : f k < 0 ∨ 1099511627776 < f k ∨ ∃ j, k = j + 1 ∧ f k < f j) : vC n f = false := by
  cases e : vC n f with
  | false => rfl
  | true =>
    obtain ⟨_, _, h3, h4⟩ := vC_true.1 e
    rcases h with h | h | ⟨j, rfl, h⟩
    · have := h3 k hk; omega
    · have := h3 k hk; omega
    · have := h4 j hk; omega

/-- What the reference's loop has seen: the last of the first k numbers, 0 ahead of all. -/
def lastOf (f : Nat → Int) (k : Nat) : Int := if k = 0 then 0 else f (k - 1)

theorem vR_false_of {b : Int} {n k : Nat} {f : Nat → Int} (hk : k < n) (h : f k < 0 ∨ pw b ≤ f k) : vR b n f = false := by
  cases e : vR b n f with
  | false => rfl
  | true =>
    simp only [vR, Bool.and_eq_true, Bool.not_eq_true', outB_false] at e
    have := e.2 k hk
    omega
theorem vR_true {b : Int} {n : Nat} {f : Nat → Int} : vR b n f = true ↔ 4 ≤ b ∧ b ≤ 32 ∧ 1 ≤ n ∧ n ≤ 60 ∧ ∀ i, i < n → 0 ≤ f i ∧ f i < pw b := by
  simp only [vR, Bool.and_eq_true, Bool.not_eq_true', outB_false, isBits_true, btw_true]
  constructor
  · rintro ⟨⟨⟨h1, h2⟩, h3, h4⟩, h5⟩; exact ⟨h1, h2, by omega, by omega, fun i hi => by have := h5 i hi; omega⟩
  · rintro ⟨h1, h2, h3, h4, h5⟩; exact ⟨⟨⟨h1, h2⟩, by omega, by omega⟩, fun i hi => by have := h5 i hi; omega⟩

theorem refValidReadings_any (b : Int) (a : Option Addr) (n c : Nat) (f : Nat → Int) (w : World) (hn : n ≤ 9223372036854775807) (hr : RdI w a n f) :
    Calls Tryz.prog 7 #[.int .i64 b, .slice a n c] w fun e w' => e = .returned (.bool (vR b n f)) ∧ w = w' := by
  by_cases g0 : isBits b = true
  rotate_left
  · have g0' : isBits b = false := by simpa using g0
    clear g0
    have E := Lib.hid (show vR b n f = false by simp [vR, g0'])
    go_enter Tryz.func7, Tryz.ntmps7
    go_wp2_with (go_at_call 23; refine (IsBits_any _ _).mono ?_; rintro e w' ⟨rfl, rfl⟩)
    go_ret
    rw [E.out]; exact ⟨rfl, rfl⟩
  obtain ⟨b1, b2⟩ := isBits_true.1 g0
  by_cases g1 : 1 ≤ n
  rotate_left
  · have E := Lib.hid (show vR b n f = false by simp [vR, btw]; omega)
    go_enter Tryz.func7, Tryz.ntmps7
    go_wp2_with (go_at_call 23; refine (IsBits_any _ _).mono ?_; rintro e w' ⟨rfl, rfl⟩)
    go_ret
    rw [E.out]; exact ⟨rfl, rfl⟩
  by_cases g2 : n ≤ 60
  rotate_left
  · have E := Lib.hid (show vR b n f = false by simp [vR, btw]; omega)
    go_enter Tryz.func7, Tryz.ntmps7
    go_wp2_with (go_at_call 23; refine (IsBits_any _ _).mono ?_; rintro e w' ⟨rfl, rfl⟩)
    go_ret
    rw [E.out]; exact ⟨rfl, rfl⟩
  go_enter Tryz.func7, Tryz.ntmps7
  go_wp2_with (go_at_call 23; refine (IsBits_any _ _).mono ?_; rintro e w' ⟨rfl, rfl⟩)
  go_loop [6, 22] (fun _ i => ∃ k : Nat, k ≤ n ∧ i = .int .i64 k ∧ Hid (∀ i, i < k → 0 ≤ f i ∧ f i < pw b)) (fun _ i => n - (intOf i).toNat)
  case atStart => exact ⟨0, by omega, rfl, fun i hi => by omega⟩
  case round =>
    obtain ⟨k, hk, rfl, H1⟩ := hrel
    by_cases hlt : k < n
    · obtain ⟨bb, o, rfl, hc⟩ := hr.at hlt
      have hck := hc k hlt
      clear hc hr
      by_cases t1 : f k < 0
      · have E := Lib.hid (show vR b n f = false from vR_false_of hlt (.inl t1))
        go_wp2_with fail
        go_ret
        rw [E.out]; exact ⟨rfl, rfl⟩
      · by_cases t2 : pw b ≤ f k
        · have E := Lib.hid (show vR b n f = false from vR_false_of hlt (.inr t2))
          go_wp2_with (go_at_call 24; refine (size_any _ _ b1 b2).mono ?_; rintro e w' ⟨rfl, rfl⟩)
          go_ret
          rw [E.out]; exact ⟨rfl, rfl⟩
        · have H1' : Hid (∀ i, i < k + 1 → 0 ≤ f i ∧ f i < pw b) := fun i hi => by
            by_cases e : i = k
            · subst e; omega
            · exact H1.out i (by omega)
          go_wp2_with (go_at_call 24; refine (size_any _ _ b1 b2).mono ?_; rintro e w' ⟨rfl, rfl⟩)
          go_round
          case rel => exact ⟨k + 1, by omega, by go_num, H1'⟩
          case measure => simp [intOf]; omega
    · have : k = n := by omega
      subst this
      have E := Lib.hid (show vR b k f = true from vR_true.2 ⟨b1, b2, g1, g2, H1.out⟩)
      go_wp2_with fail
      go_ret
      rw [E.out]; exact ⟨rfl, rfl⟩

end Go.Proofs.YtdlbgelidcfmiaaGreatDoor
