/- Contracts of chapter 1: which lists are readings and counts, by the program (through the library's IndexFunc and IsSorted) and by the reference. -/
import Derived.Test.YtdlbgelidcfmiaaGreatDoorW1
import Derived.Test.YtdlbgelidcfmiaaGreatDoorCore
namespace Go.Proofs.YtdlbgelidcfmiaaGreatDoor
open Go.RowKit Go.Firn

theorem outside1_any (n lim : Int) (p : Addr) (w : World) (h : w.cell? p = some (.int .i64 lim)) :
    Calls Tryz.prog 64 #[.int .i64 n, .pointer (some p)] w fun e w' => e = .returned (.bool (!btw 0 n lim)) ∧ w = w' := by
  go_enter Tryz.func64, Tryz.ntmps64
  go_wp2_with (go_at_call 38; refine (between_any _ _ _ _).mono ?_; rintro e w' ⟨rfl, rfl⟩)
  go_ret
  simp

/-- Is one of the first n numbers not from 0 to lim? -/
def outB (n : Nat) (f : Nat → Int) (lim : Int) : Bool := (List.range n).any fun i => !btw 0 (f i) lim
theorem outB_false {n : Nat} {f : Nat → Int} {lim : Int} : outB n f lim = false ↔ ∀ i, i < n → 0 ≤ f i ∧ f i ≤ lim := by
  simp [outB, btw]
theorem outB_true_of {n k : Nat} {f : Nat → Int} {lim : Int} (hk : k < n) (h : btw 0 (f k) lim = false) : outB n f lim = true := by
  unfold outB; rw [List.any_eq_true]; exact ⟨k, by simpa using hk, by simp [h]⟩

def RetIdx (b : Bool) (w : World) (e : Ending) (w' : World) : Prop := ∃ j : Int, e = .returned (.int .i64 j) ∧ decide (0 ≤ j) = b ∧ w = w'

theorem IndexFunc_any (a : Option Addr) (n c : Nat) (f : Nat → Int) (lim : Int) (p : Addr) (w : World) (hn : n ≤ 9223372036854775807)
    (hr : RdI w a n f) (hp : w.cell? p = some (.int .i64 lim)) :
    Calls Tryz.prog 91 #[.slice a n c, .func (.func 64) #[] #[.pointer (some p)]] w (RetIdx (outB n f lim) w) := by
  go_enter Tryz.func91, Tryz.ntmps91
  go_wp2
  go_loop [5, 8] (fun _ i => ∃ k : Nat, k ≤ n ∧ i = .int .i64 k ∧ ∀ j, j < k → btw 0 (f j) lim = true) (fun _ i => n - (intOf i).toNat)
  case atStart => exact ⟨0, by omega, rfl, by omega⟩
  case round =>
    obtain ⟨k, hk, rfl, hall⟩ := hrel
    have Hall := Lib.hid hall; clear hall
    by_cases hlt : k < n
    · obtain ⟨b, o, rfl, hc⟩ := hr.at hlt
      have hck := hc k hlt
      clear hc hr
      by_cases ht : btw 0 (f k) lim = true
      · go_wp2_with (go_at_call 64; refine (outside1_any _ lim _ _ hp).mono ?_; rintro e w' ⟨rfl, rfl⟩)
        go_round
        case rel => exact ⟨k + 1, by omega, by go_num, fun j hj => by
          by_cases e : j = k
          · subst e; exact ht
          · exact Hall.out j (by omega)⟩
        case measure => simp [intOf]; omega
      · have ht' : btw 0 (f k) lim = false := by simpa using ht
        clear ht
        go_wp2_with (go_at_call 64; refine (outside1_any _ lim _ _ hp).mono ?_; rintro e w' ⟨rfl, rfl⟩)
        go_ret
        exact ⟨k, rfl, by rw [outB_true_of hlt ht']; simp, rfl⟩
    · have : k = n := by omega
      subst this
      go_wp2
      go_ret
      refine ⟨-1, rfl, ?_, rfl⟩
      have : outB k f lim = false := outB_false.2 fun i hi => btw_true.1 (Hall.out i hi)
      rw [this]; rfl

theorem ContainsFunc_any (a : Option Addr) (n c : Nat) (f : Nat → Int) (lim : Int) (p : Addr) (w : World) (hn : n ≤ 9223372036854775807)
    (hr : RdI w a n f) (hp : w.cell? p = some (.int .i64 lim)) :
    Calls Tryz.prog 63 #[.slice a n c, .func (.func 64) #[] #[.pointer (some p)]] w fun e w' => e = .returned (.bool (outB n f lim)) ∧ w = w' := by
  go_enter Tryz.func63, Tryz.ntmps63
  go_wp2_with (go_at_call 91; refine (IndexFunc_any a n c f lim p _ hn hr hp).mono ?_; rintro e w' ⟨j, rfl, hj, rfl⟩)
  go_ret
  simp

theorem outside_any (a : Option Addr) (n c : Nat) (f : Nat → Int) (lim : Int) (w : World) (hn : n ≤ 9223372036854775807) (hr : RdI w a n f) :
    Calls Tryz.prog 47 #[.slice a n c, .int .i64 lim] w (RetB (outB n f lim) w) := by
  have g : Gr w (w.alloc (.cells #[.int .i64 lim] 3)) := (Gr.refl w).alloc _
  have hr' := hr.gr g
  go_enter Tryz.func47, Tryz.ntmps47
  go_wp2_with (go_at_call 63; refine (ContainsFunc_any a n c f lim _ _ hn hr' ?_).mono ?_; (simp [World.cell?_alloc_new]); rintro e w' ⟨rfl, rfl⟩)
  go_ret
  exact ⟨rfl, g⟩

/-- The readings of a counter of b bits: as many as are let, each in range. -/
def vR (b : Int) (n : Nat) (f : Nat → Int) : Bool := isBits b && btw 1 n 60 && !outB n f (pw b - 1)

theorem ValidReadings_any (b : Int) (a : Option Addr) (n c : Nat) (f : Nat → Int) (w : World) (hn : n ≤ 9223372036854775807) (hr : RdI w a n f) :
    Calls Tryz.prog 22 #[.int .i64 b, .slice a n c] w (RetB (vR b n f) w) := by
  by_cases h1 : btw 4 b 32 = true
  · by_cases h2 : btw 1 n 60 = true
    · have E := Lib.hid (show vR b n f = !outB n f (pw b - 1) by simp [vR, isBits, h1, h2])
      obtain ⟨h3, h4⟩ := btw_true.1 h1
      have p0 := pw_pos b
      have p1 := pw_le h4
      have hs := shl_pw h4
      go_enter Tryz.func22, Tryz.ntmps22
      go_wp2_with (first
        | (go_at_call 38; refine (between_any _ _ _ _).mono ?_; rintro e w' ⟨rfl, rfl⟩)
        | (go_at_call 47; refine (outside_any a n c f _ _ hn hr).mono ?_; rintro e w' ⟨rfl, hg⟩))
      go_ret
      rw [E.out]
      exact ⟨rfl, hg⟩
    · have h2' : btw 1 n 60 = false := by simpa using h2
      clear h2
      have E := Lib.hid (show vR b n f = false by simp [vR, h2'])
      go_enter Tryz.func22, Tryz.ntmps22
      go_wp2_with (first
        | (go_at_call 38; refine (between_any _ _ _ _).mono ?_; rintro e w' ⟨rfl, rfl⟩))
      go_ret
      rw [E.out]
      exact ⟨rfl, Gr.refl _⟩
  · have h1' : btw 4 b 32 = false := by simpa using h1
    clear h1
    have E := Lib.hid (show vR b n f = false by simp [vR, isBits, h1'])
    go_enter Tryz.func22, Tryz.ntmps22
    go_wp2_with (first
      | (go_at_call 38; refine (between_any _ _ _ _).mono ?_; rintro e w' ⟨rfl, rfl⟩))
    go_ret
    rw [E.out]
    exact ⟨rfl, Gr.refl _⟩

theorem Less_any (x y : Int) (w : World) : Calls Tryz.prog 65 #[.int .i64 x, .int .i64 y] w fun e w' => e = .returned (.bool (decide (x < y))) ∧ w = w' := by
  go_enter Tryz.func65, Tryz.ntmps65
  go_wp2
  go_ret
  simp

theorem Less_any' (x y : Int) (w : World) : Calls Tryz.prog 65 #[.int .i64 x, .int .i64 y] w fun e w' => e = .returned (.bool (decide (x < y))) ∧ w' = w :=
  (Less_any x y w).mono fun _ _ ⟨h, e⟩ => ⟨h, e.symm⟩

/-- Is none of the first n numbers less than the one in front of it? -/
def ascB (n : Nat) (f : Nat → Int) : Bool := (List.range (n - 1)).all fun i => !decide (f (i + 1) < f i)
theorem ascB_true {n : Nat} {f : Nat → Int} : ascB n f = true ↔ ∀ i, i + 1 < n → f i ≤ f (i + 1) := by
  simp only [ascB, List.all_eq_true, List.mem_range, Bool.not_eq_true', decide_eq_false_iff_not, Int.not_lt]
  exact ⟨fun h i hi => h i (by omega), fun h i hi => h i (by omega)⟩
theorem ascB_false {n k : Nat} {f : Nat → Int} (hk : k + 1 < n) (h : f (k + 1) < f k) : ascB n f = false := by
  cases e : ascB n f with
  | false => rfl
  | true => have := ascB_true.1 e k hk; omega

def RetD (v : Value) (w : World) (e : Ending) (w' : World) : Prop := e = .returned v ∧ ∃ m, w' = w.drewN m

theorem IsSorted_any (a : Option Addr) (n c : Nat) (f : Nat → Int) (w : World) (hn : n ≤ 9223372036854775807) (hr : RdI w a n f) :
    Calls Tryz.prog 48 #[.slice a n c] w (RetB (ascB n f) w) := by
  by_cases h0 : n = 0
  · subst h0
    go_enter Tryz.func48, Tryz.ntmps48
    go_wp2
    go_loop [3] (fun i => i = .int .i64 (-1)) (fun _ => 0)
    case atStart => rfl
    case round =>
      subst hrel
      go_wp2
      go_ret
      exact ⟨by rw [ascB_true.2 (by omega)]; rfl, Gr.refl _⟩
  obtain ⟨b, o, rfl, hc⟩ := hr.at (k := 0) (by omega)
  have Hc := Lib.hid hc
  clear hr hc
  go_enter Tryz.func48, Tryz.ntmps48
  go_wp2
  go_loopw [3] (fun i wr => ∃ k : Nat, k < n ∧ i = .int .i64 k ∧ Hid (∀ j, k ≤ j → j + 1 < n → f j ≤ f (j + 1)) ∧ Gr w wr) (fun i _ => (intOf i).toNat)
  case atStart => exact ⟨n - 1, by omega, by simp; omega, fun j h1 h2 => by omega, Gr.refl _⟩
  case round =>
    obtain ⟨k, hk, rfl, Hall, hg⟩ := hrel
    by_cases hk0 : 0 < k
    · have c1 := hg.cell (Hc.out k hk)
      have c2 := hg.cell (Hc.out (k - 1) (by omega))
      have i1 : (0 : Int) ≤ (k : Int) - 1 := by omega
      have i2 : (k : Int) - 1 < n := by omega
      have k2 : IntKind.i64.wrap ((k : Int) - 1) = (k : Int) - 1 := IntWalk.i64_in _ (by omega)
      have k1 : ((k : Int) - 1).toNat = k - 1 := by omega
      by_cases ht : f k < f (k - 1)
      · go_wp2
        go_quiet ((go_at_call 65; exact Calls.quiet_of_same (Less_any' _ _ _)))
        go_wp2
        go_ret
        refine ⟨?_, hg.drewN _⟩
        rw [ascB_false (n := n) (k := k - 1) (by omega) (by rw [Nat.sub_add_cancel (by omega)]; exact ht)]
        rfl
      · go_wp2
        go_quiet ((go_at_call 65; exact Calls.quiet_of_same (Less_any' _ _ _)))
        go_wp2
        go_roundw
        case rel => exact ⟨k - 1, by omega, by simp; omega, fun j h1 h2 => by
          by_cases e : j = k - 1
          · subst e; rw [Nat.sub_add_cancel (by omega)]; omega
          · exact Hall.out j (by omega) h2, hg.drewN _⟩
        case measure => simp [intOf]; omega
    · have : k = 0 := by omega
      subst this
      go_wp2
      go_ret
      exact ⟨by rw [ascB_true.2 fun i hi => Hall.out i (by omega) hi]; rfl, hg⟩

end Go.Proofs.YtdlbgelidcfmiaaGreatDoor
