/- Contracts of chapter 2: which numbers are hits, which sets have one, which lists are layers. -/
import Derived.Test.YtjokheeegcilhaaDoorW8
import Derived.Test.YtjokheeegcilhaaDoorPA
namespace Go.Proofs.YtjokheeegcilhaaDoor
open Go.RowKit Go.Firn

theorem refLayer_any (adr : Option Addr) (n c : Nat) (P T : Nat → Int) (w : World) (hn : n ≤ 1000) (hr : RdM w adr n P T) :
    Calls Tryd.prog 18 #[.slice adr n c] w (RetLE (layG n P T) (errH n P T) w) := by
  by_cases hv : vH n P T = true
  · have := refLayer_ok adr n c P T w (vH_iff.1 hv) hr
    unfold layG errH
    rw [if_pos hv, if_pos hv]
    exact this
  · have hv' : vH n P T = false := by simpa using hv
    have HV := Lib.hid hv'
    have HR := Lib.hid hr
    unfold layG errH
    rw [if_neg hv, if_neg hv]
    clear hv hv' hr
    go_enter Tryd.func18, Tryd.ntmps18
    go_wp2_with (go_at_call 27; refine (refValid_any adr n c P T _ hn HR.out).mono ?_; rintro e w1 ⟨rfl, g1⟩; rw [HV.out])
    go_ret2
    obtain ⟨m, rfl⟩ := g1
    exact ⟨none, 0, rfl, Nat.le_refl _, by unfold maxLen; omega, .inl rfl, (Gr.refl w).drewN m⟩

theorem isHit_any {n p b1 b2 : Nat} {f g : Nat → Nat} (hn : n ≤ 14) (x : Int) (w : World) (O : OrdB w p b1 b2 n f g) :
    Calls Tryd.prog 67 #[.pointer (some ⟨p, 0, none⟩), .int .i64 x] w fun e w' => e = .returned (.bool (inH n x)) ∧ w = w' := by
  have c0 := O.c0
  have e1 : btw 0 x ((n : Int) - 1) = inH n x := rfl
  go_enter Tryd.func67, Tryd.ntmps67
  go_wp2_with (go_at_call 71; refine (between_any _ _ _ _).mono ?_; rintro e w1 ⟨rfl, rfl⟩)
  go_ret
  exact ⟨rfl, rfl⟩

theorem refisHit_any (adr : Option Addr) (n c : Nat) (hn : n ≤ 14) (x : Int) (w : World) :
    Calls Tryd.prog 69 #[.slice adr n c, .int .i64 x] w fun e w' => e = .returned (.bool (inH n x)) ∧ w = w' := by
  go_enter Tryd.func69, Tryd.ntmps69
  go_wp2_with (go_at_call 72; refine (within_any _ _ _ _).mono ?_; rintro e w1 ⟨rfl, rfl⟩)
  go_ret
  exact ⟨rfl, rfl⟩

theorem u16_bit {s : Nat} (k : Nat) (hs : s < 65536) : bits .and .u16 ((s : Int) / (2 : Int) ^ k) 1 = if s.testBit k then 1 else 0 := by
  have h1 : s / 2 ^ k < 65536 := Nat.lt_of_le_of_lt (Nat.div_le_self _ _) hs
  rw [ipow, ← Int.natCast_ediv, show (1 : Int) = ((1 : Nat) : Int) from rfl, u16_and_nat _ _ h1 (by omega), Nat.and_one_is_mod, bit_test]
  split <;> rfl

theorem has_any (s j : Nat) (hs : s < 65536) (hj : j < 16) (w : World) :
    Calls Tryd.prog 68 #[.int .u16 s, .int .i64 j] w fun e w' => e = .returned (.bool (s.testBit j)) ∧ w = w' := by
  have e3 := u16_bit j hs
  have j1 : (j : Int) < 16 := by omega
  by_cases hb : s.testBit j = true
  · rw [if_pos hb] at e3
    rw [hb]
    clear hb
    go_enter Tryd.func68, Tryd.ntmps68
    go_wp2
    go_ret
    exact ⟨rfl, rfl⟩
  · rw [if_neg hb] at e3
    have hb' : s.testBit j = false := by simpa using hb
    rw [hb']
    clear hb hb'
    go_enter Tryd.func68, Tryd.ntmps68
    go_wp2
    go_ret
    exact ⟨rfl, rfl⟩

end Go.Proofs.YtjokheeegcilhaaDoor
