/- Contracts of chapter 1: the greatest common divisor and the fraction in lowest terms, of the program and of the reference. -/
import Derived.Test.YtdlbgelidcfmiaaGreatDoorW8
import Derived.Test.YtdlbgelidcfmiaaGreatDoorP4
import Derived.BigRegion
namespace Go.Proofs.YtdlbgelidcfmiaaGreatDoor
open Go.RowKit Go.Firn

def RetDI (v : Int) (w : World) (e : Ending) (w' : World) : Prop := e = .returned (.int .i64 v) ∧ ∃ m, w' = w.drewN m
/-- A ratio. -/
def RetR (n d : Int) (w : World) (e : Ending) (w' : World) : Prop := e = .returned (.agg #[.int .i64 n, .int .i64 d]) ∧ Gr w w'
/-- A ratio and an error. -/
def RetRE (n d err : Int) (w : World) (e : Ending) (w' : World) : Prop := e = .returned (.tuple #[.agg #[.int .i64 n, .int .i64 d], .int .i64 err]) ∧ Gr w w'

/-- The size that a walk bears. -/
def Sz (a : Int) : Prop := -4611686018427387904 ≤ a ∧ a ≤ 4611686018427387904
theorem Sz.of {a : Int} (h1 : -4611686018427387904 ≤ a) (h2 : a ≤ 4611686018427387904) : Sz a := ⟨h1, h2⟩

theorem sz_tmod {a b : Int} (ha : Sz a) : Sz (a.tmod b) := by
  have h := Int.natAbs_tmod a b
  have h2 := Nat.mod_le a.natAbs b.natAbs
  unfold Sz at *
  omega

theorem tmod_nonneg {a b : Int} (ha : 0 ≤ a) : 0 ≤ a.tmod b := by
  rw [Int.tmod_eq_emod_of_nonneg ha]
  by_cases h : b = 0
  · rw [h, Int.emod_zero]; exact ha
  · exact Int.emod_nonneg _ h

theorem divisor_any (a b : Int) (w : World) (ha : Sz a) (hb : Sz b) (hb0 : 0 ≤ b) :
    Calls Tryz.prog 56 #[.int .i64 a, .int .i64 b] w (RetDI (Int.gcd a b) w) := by
  have Ha := Lib.hid ha
  have Hb := Lib.hid hb
  obtain ⟨l1, l2⟩ := ha
  have Hb0 := Lib.hid hb0
  have N := Lib.hid (show Int.gcd (-a) b = Int.gcd a b from Int.neg_gcd)
  have Sn := Lib.hid (show Sz (-a) from ⟨by omega, by omega⟩)
  clear hb hb0
  by_cases hp : 0 ≤ a
  all_goals
    have Hp := Lib.hid hp
    go_enter Tryz.func56, Tryz.ntmps56
    go_wp2
    go_loopw [0, 1] (fun x y wr => ∃ a' b' : Int, x = .int .i64 a' ∧ y = .int .i64 b' ∧ Hid (Sz a' ∧ 0 ≤ a') ∧ Hid (Sz b' ∧ 0 ≤ b') ∧ Hid (Int.gcd a' b' = Int.gcd a b) ∧ Hid (∃ m, wr = w.drewN m)) (fun _ y _ => (intOf y).natAbs)
    case atStart => first | exact ⟨a, b, rfl, rfl, ⟨Ha.out, Hp.out⟩, ⟨Hb.out, Hb0.out⟩, rfl, 0, rfl⟩ | exact ⟨-a, b, rfl, rfl, ⟨Sn.out, by omega⟩, ⟨Hb.out, Hb0.out⟩, N.out, 0, rfl⟩
    case round =>
      obtain ⟨a', b', rfl, rfl, h1, h2, h3, hm⟩ := hrel
      by_cases h0 : b' = 0
      · subst h0
        have E := Lib.hid (show (a'.natAbs : Int) = Int.gcd a b by rw [← h3.out, Int.gcd_zero_right])
        obtain ⟨⟨l3, l4⟩, l5⟩ := h1.out
        go_wp2
        go_ret
        refine ⟨?_, hm.out⟩
        rw [← E.out]
        show Ending.returned (.int .i64 a') = _
        rw [show (a'.natAbs : Int) = a' by omega]
      · have t1 : (b' != 0) = true := by simp [h0]
        go_wp2
        go_quiet (fail)
        go_wp2
        go_roundw
        case rel => exact ⟨b', a'.tmod b', rfl, rfl, h2, ⟨sz_tmod h1.out.1, tmod_nonneg h1.out.2⟩, (gcd_step a' b').trans h3.out, drewN_more hm.out _⟩
        case measure => exact tmod_bd a' h0

theorem ratio_any (n d : Int) (w : World) (hn : Sz n) (hd : Sz d) (hd0 : 0 < d) :
    Calls Tryz.prog 41 #[.int .i64 n, .int .i64 d] w (RetR (rN n d) (rD n d) w) := by
  have g0 := gcd_pos n hd0
  have gne : (Int.gcd n d : Int) ≠ 0 := by omega
  have q1 := rN_tdiv n d
  have q2 := rD_tdiv n d
  have q3 : wrap64 (rN n d) = rN n d := IntWalk.wrap64_in _ (by have := rN_abs (n := n) hd0; unfold Sz at hn; omega)
  have q4 : wrap64 (rD n d) = rD n d := IntWalk.wrap64_in _ (by have := rD_le n hd0; have := rD_pos n hd0; unfold Sz at hd; omega)
  go_enter Tryz.func41, Tryz.ntmps41
  go_wp2_with (go_at_call 56; refine (divisor_any n d _ hn hd (by omega)).mono ?_; rintro e w' ⟨rfl, m, rfl⟩)
  go_region
  all_goals go_wp2
  exact bodyPost_ret (v := .agg #[.int .i64 (rN n d), .int .i64 (rD n d)]) (by simp [results, Tryz.results41, go_sem]) rfl
    ⟨rfl, ((((Gr.refl w).alloc _).drewN _).setCell (Nat.le_refl _) _).setCell (Nat.le_refl _) _⟩

end Go.Proofs.YtdlbgelidcfmiaaGreatDoor
