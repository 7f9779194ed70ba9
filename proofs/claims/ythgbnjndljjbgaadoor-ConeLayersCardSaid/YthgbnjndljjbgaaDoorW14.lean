/- Contracts of chapter 2: Before, Past, First of the program. -/
import Derived.Test.YthgbnjndljjbgaaDoorW13
namespace Go.Proofs.YthgbnjndljjbgaaDoor
open Go.RowKit Go.Firn

/-- isHit with its answer. -/
theorem isHit_v {n p b1 b2 : Nat} {f g : Nat → Nat} (hn : n ≤ 14) {x : Int} {v : Bool} (hv : inH n x = v) (w : World) (O : OrdB w p b1 b2 n f g) :
    Calls Tryd.prog 67 #[.pointer (some ⟨p, 0, none⟩), .int .i64 x] w fun e w' => e = .returned (.bool v) ∧ w = w' := by
  subst hv; exact isHit_any hn x w O
theorem refisHit_v (adr : Option Addr) (n c : Nat) (hn : n ≤ 14) {x : Int} {v : Bool} (hv : inH n x = v) (w : World) :
    Calls Tryd.prog 69 #[.slice adr n c, .int .i64 x] w fun e w' => e = .returned (.bool v) ∧ w = w' := by
  subst hv; exact refisHit_any adr n c hn x w

set_option maxHeartbeats 1000000 in
theorem Before_any (adr : Option Addr) (n c : Nat) (P T : Nat → Int) (x y : Int) (w : World) (hn : n ≤ 1000) (hw : WfH n P T) (hr : RdM w adr n P T) :
    Calls Tryd.prog 22 #[.slice adr n c, .int .i64 x, .int .i64 y] w (RetBE (befG n P T x y) (errB n P T x y) w) := by
  have HW := Lib.hid hw
  have HR := Lib.hid hr
  clear hw hr
  cases hv : vH n P T with
  | false =>
    have HV := Lib.hid hv
    have e1 : befG n P T x y = false := by unfold befG; rw [hv]; rfl
    have e2 : errB n P T x y = 20 := by unfold errB; rw [hv]; rfl
    rw [e1, e2]
    clear hv e1 e2
    go_enter Tryd.func22, Tryd.ntmps22
    go_wp2_with (go_at_call 66; refine (open_bad adr n c P T _ hn HV.out HW.out HR.out).mono ?_; rintro e w1 ⟨rfl, g1⟩)
    go_ret2
    exact ⟨rfl, g1⟩
  | true =>
    have HV := Lib.hid (vH_iff.1 hv)
    have hf := HV.out.few
    cases hx : inH n x with
    | false =>
      have e1 : befG n P T x y = false := by unfold befG; rw [hx]; simp
      have e2 : errB n P T x y = 2 := by unfold errB; rw [hv, hx]; rfl
      rw [e1, e2]
      have C1 := Lib.hid (fun w' p b1 b2 f g => isHit_v (p := p) (b1 := b1) (b2 := b2) (f := f) (g := g) hf hx w')
      clear hv e1 e2 hx
      go_enter Tryd.func22, Tryd.ntmps22
      go_wp2_with (first
        | (go_at_call 66; refine (open_any adr n c P T _ HV.out HW.out HR.out).mono ?_; rintro e w1 ⟨p, b1, b2, rfl, O, g1, l1⟩; have O1 := Lib.hid O; clear O)
        | (go_at_call 67; (with_reducible refine (C1.out _ _ _ _ _ _ O1.out).mono ?_); rintro e w2 ⟨rfl, rfl⟩))
      go_ret2
      exact ⟨rfl, g1⟩
    | true =>
      cases hy : inH n y with
      | false =>
        have e1 : befG n P T x y = false := by unfold befG; rw [hy]; simp
        have e2 : errB n P T x y = 2 := by unfold errB; rw [hv, hx, hy]; rfl
        rw [e1, e2]
        have C1 := Lib.hid (fun w' p b1 b2 f g => isHit_v (p := p) (b1 := b1) (b2 := b2) (f := f) (g := g) hf hx w')
        have C2 := Lib.hid (fun w' p b1 b2 f g => isHit_v (p := p) (b1 := b1) (b2 := b2) (f := f) (g := g) hf hy w')
        clear hv e1 e2 hx hy
        go_enter Tryd.func22, Tryd.ntmps22
        go_wp2_with (first
          | (go_at_call 66; refine (open_any adr n c P T _ HV.out HW.out HR.out).mono ?_; rintro e w1 ⟨p, b1, b2, rfl, O, g1, l1⟩; have O1 := Lib.hid O; clear O)
          | (go_at_call 67; (with_reducible refine (C1.out _ _ _ _ _ _ O1.out).mono ?_); rintro e w2 ⟨rfl, rfl⟩)
          | (go_at_call 67; (with_reducible refine (C2.out _ _ _ _ _ _ O1.out).mono ?_); rintro e w2 ⟨rfl, rfl⟩))
        go_ret2
        exact ⟨rfl, g1⟩
      | true =>
        obtain ⟨I, hI, rfl⟩ := inH_nat hx
        obtain ⟨J, hJ, rfl⟩ := inH_nat hy
        have e1 : befG n P T I J = bf P T I J := by unfold befG; rw [hv, hx, hy]; rfl
        have e2 : errB n P T I J = 0 := by unfold errB; rw [hv, hx, hy]; rfl
        rw [e1, e2]
        have C1 := Lib.hid (fun w' p b1 b2 f g => isHit_v (p := p) (b1 := b1) (b2 := b2) (f := f) (g := g) hf hx w')
        have C2 := Lib.hid (fun w' p b1 b2 f g => isHit_v (p := p) (b1 := b1) (b2 := b2) (f := f) (g := g) hf hy w')
        have C3 := Lib.hid (fun w' => by have := has_any (pastM n P T J) I (by have := pastM_lt (P := P) (T := T) hf J; omega) (by omega) w'; rw [past_bit hI] at this; exact this)
        have j1 : (J : Int) < (n : Int) := by omega
        clear hv e1 e2 hx hy
        generalize bf P T I J = v at C3
        go_enter Tryd.func22, Tryd.ntmps22
        go_wp2_with (first
          | (go_at_call 66; refine (open_any adr n c P T _ HV.out HW.out HR.out).mono ?_; rintro e w1 ⟨p, b1, b2, rfl, O, g1, l1⟩; have O1 := Lib.hid O; clear O; have o0 := O1.out.c0; have r1 := (O1.out.r1 J hJ).1)
          | (go_at_call 67; (with_reducible refine (C1.out _ _ _ _ _ _ O1.out).mono ?_); rintro e w2 ⟨rfl, rfl⟩)
          | (go_at_call 67; (with_reducible refine (C2.out _ _ _ _ _ _ O1.out).mono ?_); rintro e w2 ⟨rfl, rfl⟩)
          | (go_at_call 68; (with_reducible refine (C3.out _).mono ?_); rintro e w2 ⟨rfl, rfl⟩))
        go_ret2
        exact ⟨rfl, g1⟩

set_option maxHeartbeats 1000000 in
theorem Past_any (adr : Option Addr) (n c : Nat) (P T : Nat → Int) (x : Int) (w : World) (hn : n ≤ 1000) (hw : WfH n P T) (hr : RdM w adr n P T) (hT : Tab w) :
    Calls Tryd.prog 24 #[.slice adr n c, .int .i64 x] w (RetLE (pasG n P T x) (errP n P T x) w) := by
  have HW := Lib.hid hw
  have HR := Lib.hid hr
  have TT := Lib.hid hT
  clear hw hr hT
  cases hv : vH n P T with
  | false =>
    have HV := Lib.hid hv
    have e1 : pasG n P T x = [] := by unfold pasG; rw [hv]; rfl
    have e2 : errP n P T x = 20 := by unfold errP; rw [hv]; rfl
    rw [e1, e2]
    clear hv e1 e2
    go_enter Tryd.func24, Tryd.ntmps24
    go_wp2_with (go_at_call 66; refine (open_bad adr n c P T _ hn HV.out HW.out HR.out).mono ?_; rintro e w1 ⟨rfl, g1⟩)
    go_ret2
    exact ⟨none, 0, rfl, Nat.le_refl _, by unfold maxLen; omega, .inl rfl, g1⟩
  | true =>
    have HV := Lib.hid (vH_iff.1 hv)
    have hf := HV.out.few
    cases hx : inH n x with
    | false =>
      have e1 : pasG n P T x = [] := by unfold pasG; rw [hv, hx]; rfl
      have e2 : errP n P T x = 2 := by unfold errP; rw [hv, hx]; rfl
      rw [e1, e2]
      have C1 := Lib.hid (fun w' p b1 b2 f g => isHit_v (p := p) (b1 := b1) (b2 := b2) (f := f) (g := g) hf hx w')
      clear hv e1 e2 hx
      go_enter Tryd.func24, Tryd.ntmps24
      go_wp2_with (first
        | (go_at_call 66; refine (open_any adr n c P T _ HV.out HW.out HR.out).mono ?_; rintro e w1 ⟨p, b1, b2, rfl, O, g1, l1⟩; have O1 := Lib.hid O; clear O)
        | (go_at_call 67; (with_reducible refine (C1.out _ _ _ _ _ _ O1.out).mono ?_); rintro e w2 ⟨rfl, rfl⟩))
      go_ret2
      exact ⟨none, 0, rfl, Nat.le_refl _, by unfold maxLen; omega, .inl rfl, g1⟩
    | true =>
      obtain ⟨I, hI, rfl⟩ := inH_nat hx
      have e1 : pasG n P T I = pastL n P T I := by unfold pasG; rw [hv, hx]; rfl
      have e2 : errP n P T I = 0 := by unfold errP; rw [hv, hx]; rfl
      rw [e1, e2]
      have C1 := Lib.hid (fun w' p b1 b2 f g => isHit_v (p := p) (b1 := b1) (b2 := b2) (f := f) (g := g) hf hx w')
      have C3 := Lib.hid (fun w' hT => by have := list_any (pastM n P T I) w' (by have := pastM_lt (P := P) (T := T) hf I; omega) hT; rw [pastL_eq hf] at this; exact this)
      have j1 : (I : Int) < (n : Int) := by omega
      clear hv e1 e2 hx
      generalize pastL n P T I = v at C3
      go_enter Tryd.func24, Tryd.ntmps24
      go_wp2_with (first
        | (go_at_call 66; refine (open_any adr n c P T _ HV.out HW.out HR.out).mono ?_; rintro e w1 ⟨p, b1, b2, rfl, O, g1, l1⟩; have O1 := Lib.hid O; clear O; have o0 := O1.out.c0; have r1 := (O1.out.r1 I hI).1)
        | (go_at_call 67; (with_reducible refine (C1.out _ _ _ _ _ _ O1.out).mono ?_); rintro e w2 ⟨rfl, rfl⟩)
        | (go_at_call 70; (with_reducible refine (C3.out _ (TT.out.gr g1)).mono ?_); rintro e w2 ⟨a, c, rfl, r1, r2, r3, g2⟩))
      go_ret2
      exact ⟨a, c, rfl, r1, r2, r3, g1.trans g2⟩

set_option maxHeartbeats 1000000 in
theorem First_any (adr : Option Addr) (n c : Nat) (P T : Nat → Int) (w : World) (hn : n ≤ 1000) (hw : WfH n P T) (hr : RdM w adr n P T) (hT : Tab w) :
    Calls Tryd.prog 28 #[.slice adr n c] w (RetLE (firG n P T) (errH n P T) w) := by
  have HW := Lib.hid hw
  have HR := Lib.hid hr
  have TT := Lib.hid hT
  clear hw hr hT
  cases hv : vH n P T with
  | false =>
    have HV := Lib.hid hv
    have e1 : firG n P T = [] := by unfold firG; rw [hv]; rfl
    have e2 : errH n P T = 20 := by unfold errH; rw [hv]; rfl
    rw [e1, e2]
    clear hv e1 e2
    go_enter Tryd.func28, Tryd.ntmps28
    go_wp2_with (first
      | (go_at_call 66; refine (open_bad adr n c P T _ hn HV.out HW.out HR.out).mono ?_; rintro e w1 ⟨rfl, g1⟩)
      | go_in)
    go_ret2
    exact ⟨none, 0, rfl, Nat.le_refl _, by unfold maxLen; omega, .inl rfl, g1⟩
  | true =>
    have HV := Lib.hid (vH_iff.1 hv)
    have hf := HV.out.few
    have pp := Nat.two_pow_pos n
    have e1 : firG n P T = firstL n P T (2 ^ n - 1).testBit := by
      unfold firG
      rw [hv, if_pos rfl]
      exact firstL_congr fun i hi => by rw [Nat.testBit_two_pow_sub_one]; simp [hi]
    have e2 : errH n P T = 0 := by unfold errH; rw [hv]; rfl
    rw [e1, e2]
    have C1 := Lib.hid (fun w' p b1 b2 => free_any (n := n) (p := p) (b1 := b1) (b2 := b2) (P := P) (T := T) hf (2 ^ n - 1) w' (by omega))
    have C3 := Lib.hid (fun w' hT => by have := list_any (freeM n P T (2 ^ n - 1)) w' (by have := freeM_lt n P T (2 ^ n - 1); have := pow14 hf; omega) hT; rw [freeM_list hf] at this; exact this)
    clear hv e1 e2 pp
    generalize firstL n P T (2 ^ n - 1).testBit = v at C3
    generalize freeM n P T (2 ^ n - 1) = fm at C3 C1
    have A1 := Lib.hid (fun w' p b1 b2 f g => all_any (n := n) (p := p) (b1 := b1) (b2 := b2) (f := f) (g := g) hf w')
    generalize 2 ^ n - 1 = al at C1 A1
    go_enter Tryd.func28, Tryd.ntmps28
    go_wp2_with (first
      | (go_at_call 66; refine (open_any adr n c P T _ HV.out HW.out HR.out).mono ?_; rintro e w1 ⟨p, b1, b2, rfl, O, g1, l1⟩; have O1 := Lib.hid O; clear O)
      | (go_at_call 75; refine (A1.out _ _ _ _ _ _ O1.out).mono ?_; rintro e w2 ⟨rfl, rfl⟩)
      | (go_at_call 74; refine (C1.out _ _ _ _ (TT.out.gr g1) O1.out).mono ?_; rintro e w2 ⟨rfl, g2⟩; have G2 := Lib.hid (g1.trans g2))
      | (go_at_call 70; refine (C3.out _ (TT.out.gr G2.out)).mono ?_; rintro e w2 ⟨a, c, rfl, r1, r2, r3, g3⟩)
      | go_in)
    go_ret2
    exact ⟨a, c, rfl, r1, r2, r3, G2.out.trans g3⟩

end Go.Proofs.YthgbnjndljjbgaaDoor
