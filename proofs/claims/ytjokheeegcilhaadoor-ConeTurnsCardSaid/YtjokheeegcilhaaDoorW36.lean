/- Contracts of chapter 2: IsChain of the program and of the reference, inside, and what is told of valid hits. -/
import Derived.Test.YtjokheeegcilhaaDoorW35
namespace Go.Proofs.YtjokheeegcilhaaDoor
open Go.RowKit Go.Firn

/-- What IsChain gives. -/
def isChnG (n : Nat) (P T : Nat → Int) (m : Nat) (l : Nat → Int) : Bool := vH n P T && chnB n P T m l

theorem IsChain_any (adr : Option Addr) (n cc : Nat) (P T : Nat → Int) (a : Option Addr) (m c : Nat) (l : Nat → Int) (w : World) (hn : n ≤ 1000) (hw : WfH n P T) (hm : m ≤ 100) (hh : RdM w adr n P T) (hr : RdI w a m l) :
    Calls Tryd.prog 47 #[.slice adr n cc, .slice a m c] w (RetBE (isChnG n P T m l) (errH n P T) w) := by
  have hmf : ∀ (fn : Fn) (first cap : Array Value) (w : World), (Instr.makeFunc fn first cap).run Tryd.prog w = .ok (.func fn first cap) w := fun _ _ _ _ => rfl
  have HW := Lib.hid hw
  have HH := Lib.hid hh
  have HR := Lib.hid hr
  have cb := Lib.hid ((Gr.refl (w.alloc (.cells #[.slice a m c] 23))).fresh' (b := w.heap.size) (j := 0) (v := .slice a m c) rfl rfl).1
  have G0 := Lib.hid ((Gr.refl w).alloc (.cells #[.slice a m c] 23))
  clear hw hh hr
  cases hv : vH n P T with
  | true =>
    have HV := Lib.hid (vH_iff.1 hv)
    have e1 := Lib.hid (show isChnG n P T m l = chnB n P T m l by unfold isChnG; rw [hv]; rfl)
    have e2 := Lib.hid (show errH n P T = 0 by unfold errH; rw [if_pos hv])
    rw [e1.out, e2.out]
    clear hv
    go_enter Tryd.func47, Tryd.ntmps47
    go_wp2_with (first
      | (go_at_call 66; refine (open_any adr n cc P T _ HV.out HW.out (HH.out.gr G0.out)).mono ?_; rintro e w1 ⟨p, b1, b2, rfl, O, g1, l1⟩; have c1 := g1.cell cb.out; have HO := Lib.hid O; clear O)
      | (go_at_call 85; refine (isChain_any HV.out.few a m c l _ hm HO.out (HR.out.gr (G0.out.trans g1))).mono ?_; rintro e w2 h2; obtain ⟨rfl, g2⟩ := h2.gr; clear h2)
      | go_in)
    go_ret2
    exact ⟨rfl, (G0.out.trans g1).trans g2⟩
  | false =>
    have HV := Lib.hid hv
    have e1 := Lib.hid (show isChnG n P T m l = false by unfold isChnG; rw [hv]; rfl)
    have e2 := Lib.hid (show errH n P T = 20 by unfold errH; rw [hv]; rfl)
    rw [e1.out, e2.out]
    clear hv
    go_enter Tryd.func47, Tryd.ntmps47
    go_wp2_with (first
      | (go_at_call 66; refine (open_bad adr n cc P T _ hn HV.out HW.out (HH.out.gr G0.out)).mono ?_; rintro e w1 ⟨rfl, g1⟩)
      | go_in)
    go_ret2
    exact ⟨rfl, G0.out.trans g1⟩

theorem refIsChain_any (adr : Option Addr) (n cc : Nat) (P T : Nat → Int) (a : Option Addr) (m c : Nat) (l : Nat → Int) (w : World) (hn : n ≤ 1000) (hm : m ≤ 100) (hh : RdM w adr n P T) (hr : RdI w a m l) :
    Calls Tryd.prog 46 #[.slice adr n cc, .slice a m c] w (RetBE (isChnG n P T m l) (errH n P T) w) := by
  have HH := Lib.hid hh
  have HR := Lib.hid hr
  clear hh hr
  cases hv : vH n P T with
  | true =>
    have HV := Lib.hid (vH_iff.1 hv)
    have EV := Lib.hid hv
    have e1 := Lib.hid (show isChnG n P T m l = chnB n P T m l by unfold isChnG; rw [hv]; rfl)
    have e2 := Lib.hid (show errH n P T = 0 by unfold errH; rw [if_pos hv])
    rw [e1.out, e2.out]
    clear hv
    go_enter Tryd.func46, Tryd.ntmps46
    go_wp2_with (first
      | (go_at_call 27; refine (refValid_any adr n cc P T _ hn HH.out).mono ?_; rintro e w1 h1; obtain ⟨rfl, g1⟩ := h1.gr; clear h1; rw [EV.out])
      | (go_at_call 88; refine (refisChain_any adr n cc P T HV.out a m c l _ hm (HH.out.gr g1) (HR.out.gr g1)).mono ?_; rintro e w2 h2; obtain ⟨rfl, g2⟩ := h2.gr; clear h2))
    go_ret2
    exact ⟨rfl, g1.trans g2⟩
  | false =>
    have HV := Lib.hid hv
    have e1 := Lib.hid (show isChnG n P T m l = false by unfold isChnG; rw [hv]; rfl)
    have e2 := Lib.hid (show errH n P T = 20 by unfold errH; rw [hv]; rfl)
    rw [e1.out, e2.out]
    clear hv
    go_enter Tryd.func46, Tryd.ntmps46
    go_wp2_with (go_at_call 27; refine (refValid_any adr n cc P T _ hn HH.out).mono ?_; rintro e w1 h1; obtain ⟨rfl, g1⟩ := h1.gr; clear h1; rw [HV.out])
    go_ret2
    exact ⟨rfl, g1⟩

theorem inside_any (a : Option Addr) (m c : Nat) (f : Nat → Int) (x : Int) (w : World) (hm : m ≤ 9223372036854775807) (hr : RdI w a m f) :
    Calls Tryd.prog 48 #[.slice a m c, .int .i64 x] w fun e w' => e = .returned (.bool (anyB m f x)) ∧ w = w' := by
  go_enter Tryd.func48, Tryd.ntmps48
  go_wp2
  go_loop [5] (fun s => ∃ k : Nat, k ≤ m ∧ s = .int .i64 k ∧ Hid (anyB k f x = false)) (fun s => m - (intOf s).toNat)
  case atStart => exact ⟨0, Nat.zero_le _, rfl, rfl⟩
  case round =>
    obtain ⟨k, hk, rfl, hF⟩ := hrel
    by_cases hlt : k < m
    · obtain ⟨b, o, rfl, hc⟩ := hr.at hlt
      have ck := hc k hlt
      have k1 : (k : Int) < (m : Int) := by omega
      clear hc hr
      by_cases e : f k = x
      · have E := Lib.hid (anyB_stop hlt e)
        have e1 : (f k == x) = true := by simp [e]
        clear e
        go_wp2
        go_ret
        rw [E.out]
        exact ⟨rfl, rfl⟩
      · have F2 := Lib.hid (show anyB (k + 1) f x = false by rw [anyB_succ, hF.out]; simp [e])
        have e1 : (f k == x) = false := by simp [e]
        clear e
        go_wp2
        go_roundw
        case rel => exact ⟨k + 1, hlt, by go_num, F2⟩
        case measure => simp [intOf]; omega
    · obtain rfl : k = m := by omega
      go_wp2
      go_ret
      rw [hF.out]
      exact ⟨rfl, rfl⟩

theorem isChnG_ok {n : Nat} {P T : Nat → Int} (V : VH n P T) (m : Nat) (l : Nat → Int) : isChnG n P T m l = chnB n P T m l := by unfold isChnG; rw [vH_iff.2 V]; rfl
theorem isLayG_ok {n : Nat} {P T : Nat → Int} (V : VH n P T) (m : Nat) (l : Nat → Int) : isLayG n P T m l = layB n P T m l := by unfold isLayG; rw [vH_iff.2 V]; rfl
theorem errH_ok {n : Nat} {P T : Nat → Int} (V : VH n P T) : errH n P T = 0 := by unfold errH; rw [vH_iff.2 V]; rfl
theorem layG_ok {n : Nat} {P T : Nat → Int} (V : VH n P T) : layG n P T = layL n P T := by unfold layG; rw [vH_iff.2 V]; rfl

end Go.Proofs.YtjokheeegcilhaaDoor
