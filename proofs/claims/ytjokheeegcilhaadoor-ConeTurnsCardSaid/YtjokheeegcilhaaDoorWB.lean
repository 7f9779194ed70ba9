/- Contracts of chapter 2: Before, Past, free, First of the program. Contracts of chapter 2: Before, Past, First of the program. Contracts of chapter 2: all, first, First, Past, Before of the reference. Contracts of chapter 2: Past and Before of the reference. Contracts of chapter 2: has of the laws; Before, Past of valid hits. -/
import Derived.Test.YtjokheeegcilhaaDoorWA
import Derived.Test.YtjokheeegcilhaaDoorPA
namespace Go.Proofs.YtjokheeegcilhaaDoor
open Go.RowKit Go.Firn

theorem all_any {n p b1 b2 : Nat} {f g : Nat → Nat} (hn : n ≤ 14) (w : World) (O : OrdB w p b1 b2 n f g) :
    Calls Tryd.prog 75 #[.pointer (some ⟨p, 0, none⟩)] w fun e w' => e = .returned (.int .u16 (2 ^ n - 1 : Nat)) ∧ w = w' := by
  have c0 := O.c0
  have e10 := shl_u16 (show n ≤ 15 by omega)
  have p14 := pow14 hn
  have pp := Nat.two_pow_pos n
  have e11 : IntKind.u16.wrap ((2 : Int) ^ n - 1) = ((2 ^ n - 1 : Nat) : Int) := by
    rw [ipow]; generalize 2 ^ n = q at p14 pp ⊢; rw [IntWalk.u16_in _ (by omega)]; omega
  clear p14 pp
  go_enter Tryd.func75, Tryd.ntmps75
  go_wp2
  go_ret
  exact ⟨by first | rfl | (rw [← e11]; rfl), rfl⟩

set_option maxHeartbeats 1000000 in
theorem free_any {n p b1 b2 : Nat} {P T : Nat → Int} (hn : n ≤ 14) (s : Nat) (w : World) (hs : s < 2 ^ n) (hT : Tab w) (O : OrdB w p b1 b2 n (pastM n P T) (futM n P T)) :
    Calls Tryd.prog 74 #[.pointer (some ⟨p, 0, none⟩), .int .u16 s] w fun e w' => e = .returned (.int .u16 (freeM n P T s : Nat)) ∧ Gr w w' := by
  have HO := Lib.hid O
  have HS := Lib.hid hs
  have s16 : s < 65536 := by have := pow14 hn; omega
  have S16 := Lib.hid s16
  have LE := Lib.hid (show (els s.testBit 16).length ≤ 16 by rw [els_length]; exact cnt_le _ _)
  have LM := Lib.hid (show ∀ k, k < (els s.testBit 16).length → (els s.testBit 16).getD k 0 < n from fun k hk => by
    obtain ⟨h1, h2⟩ := els_lt hk
    rcases Nat.lt_or_ge ((els s.testBit 16).getD k 0) n with h | h
    · exact h
    · rw [bit_ge hs h] at h2; cases h2)
  have FF := Lib.hid (fun out (h : FreeK n P T s (els s.testBit 16) (els s.testBit 16).length out) => h.fin hs (by omega))
  have FY := Lib.hid (fun k out (h : FreeK n P T s (els s.testBit 16) k out) (hk : k < (els s.testBit 16).length) => h.yes hk)
  have FN := Lib.hid (fun k out (h : FreeK n P T s (els s.testBit 16) k out) (hk : k < (els s.testBit 16).length) => h.no hk)
  have F0 := Lib.hid (FreeK.zero n P T s (els s.testBit 16))
  have C := Lib.hid (list_any s w s16 hT)
  generalize els s.testBit 16 = L at LE LM FF FY FN F0 C
  clear hs O s16
  go_enter Tryd.func74, Tryd.ntmps74
  go_wp2_with (go_at_call 70; refine C.out.mono ?_; rintro e w1 ⟨a, c, rfl, r1, r2, r3, g1⟩; have R3 := Lib.hid r3; have O1 := Lib.hid (HO.out.gr g1); clear r3 r1 r2)
  go_loopw [5, 11] (fun so si wr => ∃ k out : Nat, k ≤ L.length ∧ si = .int .i64 k ∧ so = .int .u16 out ∧ Hid (FreeK n P T s L k out) ∧ Hid (out < 65536) ∧ wr = w1) (fun _ si _ => L.length - (intOf si).toNat)
  case atStart => exact ⟨0, 0, Nat.zero_le _, rfl, rfl, F0.out, (by show 0 < _; omega), rfl⟩
  case round =>
    obtain ⟨k, out, hk, rfl, rfl, hF, hO, rfl⟩ := hrel
    by_cases hlt : k < L.length
    · obtain ⟨b, o, rfl, hc⟩ := R3.out.at hlt
      have ck := hc k hlt
      have hX := LM.out k hlt
      have FYk := Lib.hid (FY.out k out hF.out hlt)
      have FNk := Lib.hid (FN.out k out hF.out hlt)
      unfold nf at ck
      generalize L.getD k 0 = x at ck hX FYk FNk
      have o0 := O1.out.c0
      have r1 := (O1.out.r1 x hX).1
      have i1 : (x : Int) < (n : Int) := by omega
      have f1 := pastM_lt (n := n) (P := P) (T := T) hn x
      have e5 := and_u16 (a := pastM n P T x) (b := s) (by omega) S16.out
      have FA := Lib.hid (show freeAt n P T s x = (pastM n P T x &&& s == 0) from rfl)
      have kl : (k : Int) < (L.length : Int) := by omega
      have LE' := LE.out
      have kw : IntKind.i64.wrap ((k : Int) + 1) = (k : Int) + 1 := IntWalk.i64_in _ (by omega)
      clear hc f1
      by_cases hz : pastM n P T x &&& s = 0
      · have F2 := Lib.hid (FYk.out (by rw [FA.out, hz]; rfl))
        have e10 := shl_u16 (show x ≤ 15 by omega)
        have e11 := orp_u16 (x := out) (a := x) hO.out (by omega)
        have O2 := Lib.hid (show out ||| 2 ^ x < 65536 from Nat.or_lt_two_pow (n := 16) hO.out (pow_u16 (by omega)))
        rw [hz] at e5
        clear hz
        go_wp2_with fail
        go_roundw
        case rel => exact ⟨k + 1, _, hlt, by go_num, rfl, F2.out, O2, by trivial⟩
        case measure => simp [intOf]; omega
      · have F2 := Lib.hid (FNk.out (by rw [FA.out]; simpa using hz))
        have hz2 : ((((pastM n P T x &&& s) : Nat) : Int) == 0) = false := by simpa using hz
        clear hz
        go_wp2_with fail
        go_roundw
        case rel => exact ⟨k + 1, out, hlt, by go_num, rfl, F2.out, hO, by trivial⟩
        case measure => simp [intOf]; omega
    · obtain rfl : k = L.length := by omega
      have E := Lib.hid (FF.out out hF.out)
      go_wp2_with fail
      go_ret
      rw [← E.out]
      exact ⟨rfl, g1⟩

end Go.Proofs.YtjokheeegcilhaaDoor

namespace Go.Proofs.YtjokheeegcilhaaDoor
open Go.RowKit Go.Firn

/-- isHit with its answer. -/
theorem isHit_v {n p b1 b2 : Nat} {f g : Nat → Nat} (hn : n ≤ 14) {x : Int} {v : Bool} (hv : inH n x = v) (w : World) (O : OrdB w p b1 b2 n f g) :
    Calls Tryd.prog 67 #[.pointer (some ⟨p, 0, none⟩), .int .i64 x] w fun e w' => e = .returned (.bool v) ∧ w = w' := by
  subst hv; exact isHit_any hn x w O
theorem refisHit_v (adr : Option Addr) (n c : Nat) (hn : n ≤ 14) {x : Int} {v : Bool} (hv : inH n x = v) (w : World) :
    Calls Tryd.prog 69 #[.slice adr n c, .int .i64 x] w fun e w' => e = .returned (.bool v) ∧ w = w' := by
  subst hv; exact refisHit_any adr n c hn x w

set_option maxHeartbeats 1000000 in
theorem Before_any (adr : Option Addr) (n c : Nat) (P T : Nat → Int) (x y : Int) (w : World) (hn : n ≤ 1000) (hw : WfH n P T) (hr : RdM w adr n P T) :
    Calls Tryd.prog 22 #[.slice adr n c, .int .i64 x, .int .i64 y] w (RetBE (befG n P T x y) (errB n P T x y) w) := by
  have HW := Lib.hid hw
  have HR := Lib.hid hr
  clear hw hr
  cases hv : vH n P T with
  | false =>
    have HV := Lib.hid hv
    have e1 : befG n P T x y = false := by unfold befG; rw [hv]; rfl
    have e2 : errB n P T x y = 20 := by unfold errB; rw [hv]; rfl
    rw [e1, e2]
    clear hv e1 e2
    go_enter Tryd.func22, Tryd.ntmps22
    go_wp2_with (go_at_call 66; refine (open_bad adr n c P T _ hn HV.out HW.out HR.out).mono ?_; rintro e w1 ⟨rfl, g1⟩)
    go_ret2
    exact ⟨rfl, g1⟩
  | true =>
    have HV := Lib.hid (vH_iff.1 hv)
    have hf := HV.out.few
    cases hx : inH n x with
    | false =>
      have e1 : befG n P T x y = false := by unfold befG; rw [hx]; simp
      have e2 : errB n P T x y = 2 := by unfold errB; rw [hv, hx]; rfl
      rw [e1, e2]
      have C1 := Lib.hid (fun w' p b1 b2 f g => isHit_v (p := p) (b1 := b1) (b2 := b2) (f := f) (g := g) hf hx w')
      clear hv e1 e2 hx
      go_enter Tryd.func22, Tryd.ntmps22
      go_wp2_with (first
        | (go_at_call 66; refine (open_any adr n c P T _ HV.out HW.out HR.out).mono ?_; rintro e w1 ⟨p, b1, b2, rfl, O, g1, l1⟩; have O1 := Lib.hid O; clear O)
        | (go_at_call 67; (with_reducible refine (C1.out _ _ _ _ _ _ O1.out).mono ?_); rintro e w2 ⟨rfl, rfl⟩))
      go_ret2
      exact ⟨rfl, g1⟩
    | true =>
      cases hy : inH n y with
      | false =>
        have e1 : befG n P T x y = false := by unfold befG; rw [hy]; simp
        have e2 : errB n P T x y = 2 := by unfold errB; rw [hv, hx, hy]; rfl
        rw [e1, e2]
        have C1 := Lib.hid (fun w' p b1 b2 f g => isHit_v (p := p) (b1 := b1) (b2 := b2) (f := f) (g := g) hf hx w')
        have C2 := Lib.hid (fun w' p b1 b2 f g => isHit_v (p := p) (b1 := b1) (b2 := b2) (f := f) (g := g) hf hy w')
        clear hv e1 e2 hx hy
        go_enter Tryd.func22, Tryd.ntmps22
        go_wp2_with (first
          | (go_at_call 66; refine (open_any adr n c P T _ HV.out HW.out HR.out).mono ?_; rintro e w1 ⟨p, b1, b2, rfl, O, g1, l1⟩; have O1 := Lib.hid O; clear O)
          | (go_at_call 67; (with_reducible refine (C1.out _ _ _ _ _ _ O1.out).mono ?_); rintro e w2 ⟨rfl, rfl⟩)
          | (go_at_call 67; (with_reducible refine (C2.out _ _ _ _ _ _ O1.out).mono ?_); rintro e w2 ⟨rfl, rfl⟩))
        go_ret2
        exact ⟨rfl, g1⟩
      | true =>
        obtain ⟨I, hI, rfl⟩ := inH_nat hx
        obtain ⟨J, hJ, rfl⟩ := inH_nat hy
        have e1 : befG n P T I J = bf P T I J := by unfold befG; rw [hv, hx, hy]; rfl
        have e2 : errB n P T I J = 0 := by unfold errB; rw [hv, hx, hy]; rfl
        rw [e1, e2]
        have C1 := Lib.hid (fun w' p b1 b2 f g => isHit_v (p := p) (b1 := b1) (b2 := b2) (f := f) (g := g) hf hx w')
        have C2 := Lib.hid (fun w' p b1 b2 f g => isHit_v (p := p) (b1 := b1) (b2 := b2) (f := f) (g := g) hf hy w')
        have C3 := Lib.hid (fun w' => by have := has_any (pastM n P T J) I (by have := pastM_lt (P := P) (T := T) hf J; omega) (by omega) w'; rw [past_bit hI] at this; exact this)
        have j1 : (J : Int) < (n : Int) := by omega
        clear hv e1 e2 hx hy
        generalize bf P T I J = v at C3
        go_enter Tryd.func22, Tryd.ntmps22
        go_wp2_with (first
          | (go_at_call 66; refine (open_any adr n c P T _ HV.out HW.out HR.out).mono ?_; rintro e w1 ⟨p, b1, b2, rfl, O, g1, l1⟩; have O1 := Lib.hid O; clear O; have o0 := O1.out.c0; have r1 := (O1.out.r1 J hJ).1)
          | (go_at_call 67; (with_reducible refine (C1.out _ _ _ _ _ _ O1.out).mono ?_); rintro e w2 ⟨rfl, rfl⟩)
          | (go_at_call 67; (with_reducible refine (C2.out _ _ _ _ _ _ O1.out).mono ?_); rintro e w2 ⟨rfl, rfl⟩)
          | (go_at_call 68; (with_reducible refine (C3.out _).mono ?_); rintro e w2 ⟨rfl, rfl⟩))
        go_ret2
        exact ⟨rfl, g1⟩

set_option maxHeartbeats 1000000 in
theorem Past_any (adr : Option Addr) (n c : Nat) (P T : Nat → Int) (x : Int) (w : World) (hn : n ≤ 1000) (hw : WfH n P T) (hr : RdM w adr n P T) (hT : Tab w) :
    Calls Tryd.prog 24 #[.slice adr n c, .int .i64 x] w (RetLE (pasG n P T x) (errP n P T x) w) := by
  have HW := Lib.hid hw
  have HR := Lib.hid hr
  have TT := Lib.hid hT
  clear hw hr hT
  cases hv : vH n P T with
  | false =>
    have HV := Lib.hid hv
    have e1 : pasG n P T x = [] := by unfold pasG; rw [hv]; rfl
    have e2 : errP n P T x = 20 := by unfold errP; rw [hv]; rfl
    rw [e1, e2]
    clear hv e1 e2
    go_enter Tryd.func24, Tryd.ntmps24
    go_wp2_with (go_at_call 66; refine (open_bad adr n c P T _ hn HV.out HW.out HR.out).mono ?_; rintro e w1 ⟨rfl, g1⟩)
    go_ret2
    exact ⟨none, 0, rfl, Nat.le_refl _, by unfold maxLen; omega, .inl rfl, g1⟩
  | true =>
    have HV := Lib.hid (vH_iff.1 hv)
    have hf := HV.out.few
    cases hx : inH n x with
    | false =>
      have e1 : pasG n P T x = [] := by unfold pasG; rw [hv, hx]; rfl
      have e2 : errP n P T x = 2 := by unfold errP; rw [hv, hx]; rfl
      rw [e1, e2]
      have C1 := Lib.hid (fun w' p b1 b2 f g => isHit_v (p := p) (b1 := b1) (b2 := b2) (f := f) (g := g) hf hx w')
      clear hv e1 e2 hx
      go_enter Tryd.func24, Tryd.ntmps24
      go_wp2_with (first
        | (go_at_call 66; refine (open_any adr n c P T _ HV.out HW.out HR.out).mono ?_; rintro e w1 ⟨p, b1, b2, rfl, O, g1, l1⟩; have O1 := Lib.hid O; clear O)
        | (go_at_call 67; (with_reducible refine (C1.out _ _ _ _ _ _ O1.out).mono ?_); rintro e w2 ⟨rfl, rfl⟩))
      go_ret2
      exact ⟨none, 0, rfl, Nat.le_refl _, by unfold maxLen; omega, .inl rfl, g1⟩
    | true =>
      obtain ⟨I, hI, rfl⟩ := inH_nat hx
      have e1 : pasG n P T I = pastL n P T I := by unfold pasG; rw [hv, hx]; rfl
      have e2 : errP n P T I = 0 := by unfold errP; rw [hv, hx]; rfl
      rw [e1, e2]
      have C1 := Lib.hid (fun w' p b1 b2 f g => isHit_v (p := p) (b1 := b1) (b2 := b2) (f := f) (g := g) hf hx w')
      have C3 := Lib.hid (fun w' hT => by have := list_any (pastM n P T I) w' (by have := pastM_lt (P := P) (T := T) hf I; omega) hT; rw [pastL_eq hf] at this; exact this)
      have j1 : (I : Int) < (n : Int) := by omega
      clear hv e1 e2 hx
      generalize pastL n P T I = v at C3
      go_enter Tryd.func24, Tryd.ntmps24
      go_wp2_with (first
        | (go_at_call 66; refine (open_any adr n c P T _ HV.out HW.out HR.out).mono ?_; rintro e w1 ⟨p, b1, b2, rfl, O, g1, l1⟩; have O1 := Lib.hid O; clear O; have o0 := O1.out.c0; have r1 := (O1.out.r1 I hI).1)
        | (go_at_call 67; (with_reducible refine (C1.out _ _ _ _ _ _ O1.out).mono ?_); rintro e w2 ⟨rfl, rfl⟩)
        | (go_at_call 70; (with_reducible refine (C3.out _ (TT.out.gr g1)).mono ?_); rintro e w2 ⟨a, c, rfl, r1, r2, r3, g2⟩))
      go_ret2
      exact ⟨a, c, rfl, r1, r2, r3, g1.trans g2⟩

set_option maxHeartbeats 1000000 in
theorem First_any (adr : Option Addr) (n c : Nat) (P T : Nat → Int) (w : World) (hn : n ≤ 1000) (hw : WfH n P T) (hr : RdM w adr n P T) (hT : Tab w) :
    Calls Tryd.prog 28 #[.slice adr n c] w (RetLE (firG n P T) (errH n P T) w) := by
  have HW := Lib.hid hw
  have HR := Lib.hid hr
  have TT := Lib.hid hT
  clear hw hr hT
  cases hv : vH n P T with
  | false =>
    have HV := Lib.hid hv
    have e1 : firG n P T = [] := by unfold firG; rw [hv]; rfl
    have e2 : errH n P T = 20 := by unfold errH; rw [hv]; rfl
    rw [e1, e2]
    clear hv e1 e2
    go_enter Tryd.func28, Tryd.ntmps28
    go_wp2_with (first
      | (go_at_call 66; refine (open_bad adr n c P T _ hn HV.out HW.out HR.out).mono ?_; rintro e w1 ⟨rfl, g1⟩)
      | go_in)
    go_ret2
    exact ⟨none, 0, rfl, Nat.le_refl _, by unfold maxLen; omega, .inl rfl, g1⟩
  | true =>
    have HV := Lib.hid (vH_iff.1 hv)
    have hf := HV.out.few
    have pp := Nat.two_pow_pos n
    have e1 : firG n P T = firstL n P T (2 ^ n - 1).testBit := by
      unfold firG
      rw [hv, if_pos rfl]
      exact firstL_congr fun i hi => by rw [Nat.testBit_two_pow_sub_one]; simp [hi]
    have e2 : errH n P T = 0 := by unfold errH; rw [hv]; rfl
    rw [e1, e2]
    have C1 := Lib.hid (fun w' p b1 b2 => free_any (n := n) (p := p) (b1 := b1) (b2 := b2) (P := P) (T := T) hf (2 ^ n - 1) w' (by omega))
    have C3 := Lib.hid (fun w' hT => by have := list_any (freeM n P T (2 ^ n - 1)) w' (by have := freeM_lt n P T (2 ^ n - 1); have := pow14 hf; omega) hT; rw [freeM_list hf] at this; exact this)
    clear hv e1 e2 pp
    generalize firstL n P T (2 ^ n - 1).testBit = v at C3
    generalize freeM n P T (2 ^ n - 1) = fm at C3 C1
    have A1 := Lib.hid (fun w' p b1 b2 f g => all_any (n := n) (p := p) (b1 := b1) (b2 := b2) (f := f) (g := g) hf w')
    generalize 2 ^ n - 1 = al at C1 A1
    go_enter Tryd.func28, Tryd.ntmps28
    go_wp2_with (first
      | (go_at_call 66; refine (open_any adr n c P T _ HV.out HW.out HR.out).mono ?_; rintro e w1 ⟨p, b1, b2, rfl, O, g1, l1⟩; have O1 := Lib.hid O; clear O)
      | (go_at_call 75; refine (A1.out _ _ _ _ _ _ O1.out).mono ?_; rintro e w2 ⟨rfl, rfl⟩)
      | (go_at_call 74; refine (C1.out _ _ _ _ (TT.out.gr g1) O1.out).mono ?_; rintro e w2 ⟨rfl, g2⟩; have G2 := Lib.hid (g1.trans g2))
      | (go_at_call 70; refine (C3.out _ (TT.out.gr G2.out)).mono ?_; rintro e w2 ⟨a, c, rfl, r1, r2, r3, g3⟩)
      | go_in)
    go_ret2
    exact ⟨a, c, rfl, r1, r2, r3, G2.out.trans g3⟩

end Go.Proofs.YtjokheeegcilhaaDoor

namespace Go.Proofs.YtjokheeegcilhaaDoor
open Go.RowKit Go.Firn

theorem Tryd.info4 : (Tryd.prog.info? 4).map (fun i => (i.zero, i.size, i.bytes)) = some (some (.bool false), 1, 1) := by kernel_rfl

/-- A row of bools. -/
def bV (f : Nat → Bool) (i : Nat) : Value := .bool (f i)

theorem refall_any (adr : Option Addr) (n c : Nat) (w : World) (hn : n ≤ 14) :
    Calls Tryd.prog 77 #[.slice adr n c] w fun e w' => ∃ bk, e = .returned (.slice (some ⟨bk, 0, none⟩) n n) ∧ RowG w' bk n (bV fun _ => true) ∧ Gr w w' ∧ w.heap.size ≤ bk := by
  obtain ⟨cs, hcs, _, mk0⟩ := made Tryd.underlying88 Tryd.info4 rfl (by omega) n (by omega)
  obtain ⟨bk, hbk⟩ : ∃ bk, bk = w.heap.size := ⟨_, rfl⟩
  have R0 := Lib.hid ((RowG.new (w := w) (e := 4) hbk.symm hcs).congr (V' := bV fun i => decide (i < 0)) fun i _ => by simp [bV])
  have G0 := Lib.hid ((Gr.refl w).alloc (.cells cs 4))
  have B0 := Lib.hid (show w.heap.size ≤ bk by omega)
  go_enter Tryd.func77, Tryd.ntmps77
  go_wp2
  rw [← hbk]
  clear hbk mk0 hcs
  go_loopw [4] (fun s wr => ∃ k : Nat, k ≤ n ∧ s = .int .i64 k ∧ Hid (RowG wr bk n (bV fun i => decide (i < k))) ∧ Hid (Gr w wr)) (fun s _ => n - (intOf s).toNat)
  case atStart => exact ⟨0, Nat.zero_le _, rfl, R0, G0⟩
  case round =>
    obtain ⟨k, hk, rfl, hR, hG⟩ := hrel
    by_cases hlt : k < n
    · obtain ⟨d1, d2⟩ := hR.out k hlt
      have k1 : (k : Int) < (n : Int) := by omega
      have R2 := Lib.hid ((hR.out.put (j := k) (.bool true)).congr (V' := bV fun i => decide (i < k + 1)) fun i _ => by
        show (if i = k then _ else bV _ i) = _
        unfold bV
        by_cases e : i = k
        · rw [if_pos e]; have : decide (i < k + 1) = true := decide_eq_true (by omega)
          show Value.bool true = Value.bool (decide (i < k + 1))
          rw [this]
        · rw [if_neg e]; have : decide (i < k) = decide (i < k + 1) := by congr 1; apply propext; omega
          show Value.bool (decide (i < k)) = Value.bool (decide (i < k + 1))
          rw [this])
      have G2 := Lib.hid (hG.out.setAt (b := bk) (j := k) B0.out (.bool true))
      go_wp2_with fail
      go_roundw
      case rel => exact ⟨k + 1, hlt, by go_num, R2, G2⟩
      case measure => simp [intOf]; omega
    · obtain rfl : k = n := by omega
      go_wp2_with fail
      go_ret
      exact ⟨bk, rfl, hR.out.congr fun i hi => congrArg Value.bool (decide_eq_true hi), hG.out, B0.out⟩

theorem nf_at {p : Nat → Bool} {n k : Nat} (hk : k < n) (hp : p k = true) : nf (els p n) (els p k).length = (k : Int) := by
  unfold nf
  rw [els_at hk hp]

set_option maxHeartbeats 1000000 in
theorem first_any (adr : Option Addr) (n c : Nat) (P T : Nat → Int) (V : VH n P T) (bk cc : Nat) (left : Nat → Bool) (w : World) (hh : RdM w adr n P T) (hr : RowG w bk n (bV left)) :
    Calls Tryd.prog 76 #[.slice adr n c, .slice (some ⟨bk, 0, none⟩) n cc] w (RetL (firstL n P T left) w) := by
  have hn := V.few
  have HV := Lib.hid V
  have HH := Lib.hid hh
  have HR := Lib.hid hr
  unfold firstL
  clear V hh hr
  go_enter Tryd.func76, Tryd.ntmps76
  go_wp2
  go_loopw [5, 6] (fun v s wr => ∃ k : Nat, k ≤ n ∧ s = .int .i64 k ∧ OwnI w 3 wr v (els (frB n P T left) k).length (nf (els (frB n P T left) n))) (fun _ s _ => n - (intOf s).toNat)
  case atStart => exact ⟨0, Nat.zero_le _, rfl, OwnI.nil w 3 _⟩
  case round =>
    obtain ⟨k, hk, rfl, hown⟩ := hrel
    by_cases hlt : k < n
    · have lk := (((HR.out.gr hown.2)) k hlt).1
      unfold bV at lk
      have k1 : (k : Int) < (n : Int) := by omega
      have J0 := Lib.hid (frJ_zero P T left k)
      go_wp2_with fail
      go_loopw [7, 8] (fun v7 s wx => ∃ j : Nat, j ≤ n ∧ s = .int .i64 j ∧ v7 = .bool (frJ P T left k j) ∧ Hid (Gr wr wx)) (fun _ s _ => n - (intOf s).toNat)
      case atStart => exact ⟨0, Nat.zero_le _, rfl, by rw [J0.out], Gr.refl _⟩
      case round =>
        obtain ⟨j, hj, rfl, rfl, hg⟩ := hrel
        clear lk
        by_cases hl2 : j < n
        · have FS := Lib.hid (frJ_succ P T left k j)
          have j1 : (j : Int) < (n : Int) := by omega
          cases hf : frJ P T left k j with
          | false =>
            have F2 := Lib.hid (show frJ P T left k (j + 1) = false by rw [FS.out, hf]; rfl)
            clear hf
            go_wp2_with fail
            go_roundw
            case rel => exact ⟨j + 1, hl2, by go_num, by rw [F2.out], hg⟩
            case measure => simp [intOf]; omega
          | true =>
            have lj := (((HR.out.gr hown.2).gr hg.out) j hl2).1
            unfold bV at lj
            cases hL : left j with
            | false =>
              have F2 := Lib.hid (show frJ P T left k (j + 1) = true by rw [FS.out, hf, hL]; rfl)
              rw [hL] at lj
              clear hf hL
              go_wp2_with fail
              go_roundw
              case rel => exact ⟨j + 1, hl2, by go_num, by rw [F2.out], hg⟩
              case measure => simp [intOf]; omega
            | true =>
              rw [hL] at lj
              have C := Lib.hid (fun w' hr => before_b adr n c P T w' HV.out j k hl2 hlt hr)
              cases hb : bf P T j k with
              | false =>
                have F2 := Lib.hid (show frJ P T left k (j + 1) = true by rw [FS.out, hf, hL, hb]; rfl)
                rw [hb] at C
                clear hf hL hb
                go_wp2_with (go_at_call 60; refine (C.out _ ((HH.out.gr hown.2).gr hg.out)).mono ?_; rintro e w2 ⟨rfl, g2⟩)
                go_roundw
                case rel => exact ⟨j + 1, hl2, by go_num, by rw [F2.out], hg.out.trans g2⟩
                case measure => simp [intOf]; omega
              | true =>
                have F2 := Lib.hid (show frJ P T left k (j + 1) = false by rw [FS.out, hf, hL, hb]; rfl)
                rw [hb] at C
                clear hf hL hb
                go_wp2_with (go_at_call 60; refine (C.out _ ((HH.out.gr hown.2).gr hg.out)).mono ?_; rintro e w2 ⟨rfl, g2⟩)
                go_roundw
                case rel => exact ⟨j + 1, hl2, by go_num, by rw [F2.out], hg.out.trans g2⟩
                case measure => simp [intOf]; omega
        · obtain rfl : j = n := by omega
          rw [frJ_end]
          have ow := hown.gr hg.out
          cases hb : frB j P T left k with
          | true =>
            have E := Lib.hid (nf_at (p := frB j P T left) hlt hb)
            have S := Lib.hid (show (els (frB j P T left) (k + 1)).length = (els (frB j P T left) k).length + 1 by rw [els_succ]; simp [hb])
            have K := Lib.hid (show (els (frB j P T left) k).length < 1000000000 by have := cnt_le (frB j P T left) k; rw [els_length]; omega)
            clear hb
            go_wp2_with (at_builtin; go_must (refine wpList_app_int rfl _ _ 23 3 rfl Tryd.underlying23 Tryd.info3 _ _ _ rfl (ow.alloc _) _ _ rfl (cell_new1 _ _ _) E.out K.out ?_); intro v1 w1 hown1 _)
            go_roundw
            case rel => exact ⟨k + 1, hlt, by go_num, by rw [S.out]; exact hown1⟩
            case measure => simp [intOf]; omega
          | false =>
            have S := Lib.hid (show els (frB j P T left) (k + 1) = els (frB j P T left) k by rw [els_succ]; simp [hb])
            clear hb
            go_wp2_with fail
            go_roundw
            case rel => exact ⟨k + 1, hlt, by go_num, by rw [S.out]; exact ow⟩
            case measure => simp [intOf]; omega
    · obtain rfl : k = n := by omega
      go_wp2_with fail
      go_ret
      obtain ⟨a, c, rfl, h1, h2, h3⟩ := hown.rd
      exact ⟨a, c, rfl, h1, h2, h3, hown.2⟩

theorem refFirst_any (adr : Option Addr) (n c : Nat) (P T : Nat → Int) (w : World) (hn : n ≤ 1000) (hr : RdM w adr n P T) :
    Calls Tryd.prog 29 #[.slice adr n c] w (RetLE (firG n P T) (errH n P T) w) := by
  have HR := Lib.hid hr
  clear hr
  cases hv : vH n P T with
  | false =>
    have HV := Lib.hid hv
    have e1 : firG n P T = [] := by unfold firG; rw [hv]; rfl
    have e2 : errH n P T = 20 := by unfold errH; rw [hv]; rfl
    rw [e1, e2]
    clear hv e1 e2
    go_enter Tryd.func29, Tryd.ntmps29
    go_wp2_with (go_at_call 27; refine (refValid_any adr n c P T _ hn HR.out).mono ?_; rintro e w1 h1; obtain ⟨rfl, g1⟩ := h1.gr; clear h1; rw [HV.out])
    go_ret2
    exact ⟨none, 0, rfl, Nat.le_refl _, by unfold maxLen; omega, .inl rfl, g1⟩
  | true =>
    have HV := Lib.hid (vH_iff.1 hv)
    have EV := Lib.hid hv
    have hf := HV.out.few
    have e1 : firG n P T = firstL n P T (fun _ => true) := by unfold firG; rw [hv]; rfl
    have e2 : errH n P T = 0 := by unfold errH; rw [hv]; rfl
    rw [e1, e2]
    have C1 := Lib.hid (fun w' bk hh hr => first_any adr n c P T HV.out bk n (fun _ => true) w' hh hr)
    generalize firstL n P T (fun _ => true) = v at C1
    clear hv e1 e2
    go_enter Tryd.func29, Tryd.ntmps29
    go_wp2_with (first
      | (go_at_call 27; refine (refValid_any adr n c P T _ hn HR.out).mono ?_; rintro e w1 h1; obtain ⟨rfl, g1⟩ := h1.gr; clear h1; rw [EV.out])
      | (go_at_call 77; refine (refall_any adr n c _ hf).mono ?_; rintro e w2 ⟨bk, rfl, ra, g2, _⟩; have RA := Lib.hid ra; have G2 := Lib.hid (g1.trans g2); clear ra)
      | (go_at_call 76; refine (C1.out _ _ (HR.out.gr G2.out) RA.out).mono ?_; rintro e w3 ⟨a, c, rfl, r1, r2, r3, g3⟩))
    go_ret2
    exact ⟨a, c, rfl, r1, r2, r3, G2.out.trans g3⟩

end Go.Proofs.YtjokheeegcilhaaDoor

namespace Go.Proofs.YtjokheeegcilhaaDoor
open Go.RowKit Go.Firn

set_option maxHeartbeats 1000000 in
theorem refPast_any (adr : Option Addr) (n c : Nat) (P T : Nat → Int) (x : Int) (w : World) (hn : n ≤ 1000) (hr : RdM w adr n P T) :
    Calls Tryd.prog 25 #[.slice adr n c, .int .i64 x] w (RetLE (pasG n P T x) (errP n P T x) w) := by
  have HR := Lib.hid hr
  clear hr
  cases hv : vH n P T with
  | false =>
    have HV := Lib.hid hv
    have e1 : pasG n P T x = [] := by unfold pasG; rw [hv]; rfl
    have e2 : errP n P T x = 20 := by unfold errP; rw [hv]; rfl
    rw [e1, e2]
    clear hv e1 e2
    go_enter Tryd.func25, Tryd.ntmps25
    go_wp2_with (go_at_call 27; refine (refValid_any adr n c P T _ hn HR.out).mono ?_; rintro e w1 h1; obtain ⟨rfl, g1⟩ := h1.gr; clear h1; rw [HV.out])
    go_ret2
    exact ⟨none, 0, rfl, Nat.le_refl _, by unfold maxLen; omega, .inl rfl, g1⟩
  | true =>
    have HV := Lib.hid (vH_iff.1 hv)
    have EV := Lib.hid hv
    have hf := HV.out.few
    cases hx : inH n x with
    | false =>
      have e1 : pasG n P T x = [] := by unfold pasG; rw [hv, hx]; rfl
      have e2 : errP n P T x = 2 := by unfold errP; rw [hv, hx]; rfl
      rw [e1, e2]
      have C1 := Lib.hid (fun w' => refisHit_v adr n c hf hx w')
      clear hv e1 e2 hx
      go_enter Tryd.func25, Tryd.ntmps25
      go_wp2_with (first
        | (go_at_call 27; refine (refValid_any adr n c P T _ hn HR.out).mono ?_; rintro e w1 h1; obtain ⟨rfl, g1⟩ := h1.gr; clear h1; rw [EV.out])
        | (go_at_call 69; (with_reducible refine (C1.out _).mono ?_); rintro e w2 ⟨rfl, rfl⟩))
      go_ret2
      exact ⟨none, 0, rfl, Nat.le_refl _, by unfold maxLen; omega, .inl rfl, g1⟩
    | true =>
      obtain ⟨I, hI, rfl⟩ := inH_nat hx
      have e1 : pasG n P T I = pastL n P T I := by unfold pasG; rw [hv, hx]; rfl
      have e2 : errP n P T I = 0 := by unfold errP; rw [hv, hx]; rfl
      rw [e1, e2]
      unfold pastL
      have C1 := Lib.hid (fun w' => refisHit_v adr n c hf hx w')
      clear hv e1 e2 hx
      go_enter Tryd.func25, Tryd.ntmps25
      go_wp2_with (first
        | (go_at_call 27; refine (refValid_any adr n c P T _ hn HR.out).mono ?_; rintro e w1 h1; obtain ⟨rfl, g1⟩ := h1.gr; clear h1; rw [EV.out])
        | (go_at_call 69; (with_reducible refine (C1.out _).mono ?_); rintro e w2 ⟨rfl, rfl⟩))
      have G1 := Lib.hid g1
      clear g1
      go_loopw [6, 7] (fun v s wr => ∃ k : Nat, k ≤ n ∧ s = .int .i64 k ∧ OwnI w 3 wr v (els (fun i => bf P T i I) k).length (nf (els (fun i => bf P T i I) n))) (fun _ s _ => n - (intOf s).toNat)
      case atStart => exact ⟨0, Nat.zero_le _, rfl, OwnI.nil' G1.out 3 _⟩
      case round =>
        obtain ⟨k, hk, rfl, hown⟩ := hrel
        by_cases hlt : k < n
        · have C := Lib.hid (fun w' hr => before_b adr n c P T w' HV.out k I hlt hI hr)
          cases hb : bf P T k I with
          | true =>
            rw [hb] at C
            have E := Lib.hid (nf_at (p := fun i => bf P T i I) hlt hb)
            have S := Lib.hid (show (els (fun i => bf P T i I) (k + 1)).length = (els (fun i => bf P T i I) k).length + 1 by rw [els_succ]; simp [hb])
            have K := Lib.hid (show (els (fun i => bf P T i I) k).length < 1000000000 by have := cnt_le (fun i => bf P T i I) k; rw [els_length]; omega)
            clear hb
            go_wp2_with (first
              | (go_at_call 60; refine (C.out _ (HR.out.gr hown.2)).mono ?_; rintro e w2 ⟨rfl, g2⟩; have ow := hown.gr g2)
              | (at_builtin; go_must (refine wpList_app_int rfl _ _ 23 3 rfl Tryd.underlying23 Tryd.info3 _ _ _ rfl (ow.alloc _) _ _ rfl (cell_new1 _ _ _) E.out K.out ?_); intro v1 w1 hown1 _))
            go_roundw
            case rel => exact ⟨k + 1, hlt, by go_num, by rw [S.out]; exact hown1⟩
            case measure => simp [intOf]; omega
          | false =>
            rw [hb] at C
            have S := Lib.hid (show els (fun i => bf P T i I) (k + 1) = els (fun i => bf P T i I) k by rw [els_succ]; simp [hb])
            clear hb
            go_wp2_with (go_at_call 60; refine (C.out _ (HR.out.gr hown.2)).mono ?_; rintro e w2 ⟨rfl, g2⟩; have ow := hown.gr g2)
            go_roundw
            case rel => exact ⟨k + 1, hlt, by go_num, by rw [S.out]; exact ow⟩
            case measure => simp [intOf]; omega
        · obtain rfl : k = n := by omega
          go_wp2_with fail
          go_ret2
          obtain ⟨a, c, rfl, h1, h2, h3⟩ := hown.rd
          exact ⟨a, c, rfl, h1, h2, h3, hown.2⟩

set_option maxHeartbeats 1000000 in
theorem refBefore_any (adr : Option Addr) (n c : Nat) (P T : Nat → Int) (x y : Int) (w : World) (hn : n ≤ 1000) (hr : RdM w adr n P T) :
    Calls Tryd.prog 23 #[.slice adr n c, .int .i64 x, .int .i64 y] w (RetBE (befG n P T x y) (errB n P T x y) w) := by
  have HR := Lib.hid hr
  clear hr
  cases hv : vH n P T with
  | false =>
    have HV := Lib.hid hv
    have e1 : befG n P T x y = false := by unfold befG; rw [hv]; rfl
    have e2 : errB n P T x y = 20 := by unfold errB; rw [hv]; rfl
    rw [e1, e2]
    clear hv e1 e2
    go_enter Tryd.func23, Tryd.ntmps23
    go_wp2_with (go_at_call 27; refine (refValid_any adr n c P T _ hn HR.out).mono ?_; rintro e w1 h1; obtain ⟨rfl, g1⟩ := h1.gr; clear h1; rw [HV.out])
    go_ret2
    exact ⟨rfl, g1⟩
  | true =>
    have HV := Lib.hid (vH_iff.1 hv)
    have EV := Lib.hid hv
    have hf := HV.out.few
    cases hx : inH n x with
    | false =>
      have e1 : befG n P T x y = false := by unfold befG; rw [hx]; simp
      have e2 : errB n P T x y = 2 := by unfold errB; rw [hv, hx]; rfl
      rw [e1, e2]
      have C1 := Lib.hid (fun w' => refisHit_v adr n c hf hx w')
      clear hv e1 e2 hx
      go_enter Tryd.func23, Tryd.ntmps23
      go_wp2_with (first
        | (go_at_call 27; refine (refValid_any adr n c P T _ hn HR.out).mono ?_; rintro e w1 h1; obtain ⟨rfl, g1⟩ := h1.gr; clear h1; rw [EV.out])
        | (go_at_call 69; (with_reducible refine (C1.out _).mono ?_); rintro e w2 ⟨rfl, rfl⟩))
      go_ret2
      exact ⟨rfl, g1⟩
    | true =>
      cases hy : inH n y with
      | false =>
        have e1 : befG n P T x y = false := by unfold befG; rw [hy]; simp
        have e2 : errB n P T x y = 2 := by unfold errB; rw [hv, hx, hy]; rfl
        rw [e1, e2]
        have C1 := Lib.hid (fun w' => refisHit_v adr n c hf hx w')
        have C2 := Lib.hid (fun w' => refisHit_v adr n c hf hy w')
        clear hv e1 e2 hx hy
        go_enter Tryd.func23, Tryd.ntmps23
        go_wp2_with (first
          | (go_at_call 27; refine (refValid_any adr n c P T _ hn HR.out).mono ?_; rintro e w1 h1; obtain ⟨rfl, g1⟩ := h1.gr; clear h1; rw [EV.out])
          | (go_at_call 69; (with_reducible refine (C1.out _).mono ?_); rintro e w2 ⟨rfl, rfl⟩)
          | (go_at_call 69; (with_reducible refine (C2.out _).mono ?_); rintro e w2 ⟨rfl, rfl⟩))
        go_ret2
        exact ⟨rfl, g1⟩
      | true =>
        obtain ⟨I, hI, rfl⟩ := inH_nat hx
        obtain ⟨J, hJ, rfl⟩ := inH_nat hy
        have e1 : befG n P T I J = bf P T I J := by unfold befG; rw [hv, hx, hy]; rfl
        have e2 : errB n P T I J = 0 := by unfold errB; rw [hv, hx, hy]; rfl
        rw [e1, e2]
        have C1 := Lib.hid (fun w' => refisHit_v adr n c hf hx w')
        have C2 := Lib.hid (fun w' => refisHit_v adr n c hf hy w')
        have C3 := Lib.hid (fun w' hr => before_b adr n c P T w' HV.out I J hI hJ hr)
        clear hv e1 e2 hx hy
        generalize bf P T I J = v at C3
        go_enter Tryd.func23, Tryd.ntmps23
        go_wp2_with (first
          | (go_at_call 27; refine (refValid_any adr n c P T _ hn HR.out).mono ?_; rintro e w1 h1; obtain ⟨rfl, g1⟩ := h1.gr; clear h1; rw [EV.out])
          | (go_at_call 69; (with_reducible refine (C1.out _).mono ?_); rintro e w2 ⟨rfl, rfl⟩)
          | (go_at_call 69; (with_reducible refine (C2.out _).mono ?_); rintro e w2 ⟨rfl, rfl⟩)
          | (go_at_call 60; refine (C3.out _ (HR.out.gr g1)).mono ?_; rintro e w2 ⟨rfl, g2⟩))
        go_ret2
        exact ⟨rfl, g1.trans g2⟩

end Go.Proofs.YtjokheeegcilhaaDoor

namespace Go.Proofs.YtjokheeegcilhaaDoor
open Go.RowKit Go.Firn

/-- One of the first k numbers is x. -/
def anyB (k : Nat) (f : Nat → Int) (x : Int) : Bool := (List.range k).any fun i => decide (f i = x)
theorem anyB_succ (k : Nat) (f : Nat → Int) (x : Int) : anyB (k + 1) f x = (anyB k f x || decide (f k = x)) := by
  unfold anyB
  rw [List.range_succ, List.any_append]
  simp
theorem anyB_stop {k m : Nat} {f : Nat → Int} {x : Int} (h : k < m) (e : f k = x) : anyB m f x = true := by
  unfold anyB
  rw [List.any_eq_true]
  exact ⟨k, by simpa using h, by simpa using e⟩
theorem anyB_list (l : List Nat) (j : Nat) : anyB l.length (nf l) j = l.contains j := by
  rw [Bool.eq_iff_iff]
  unfold anyB
  rw [List.any_eq_true, List.contains_iff_mem, List.mem_iff_getElem]
  constructor
  · rintro ⟨i, hi, h⟩
    have hi : i < l.length := by simpa using hi
    refine ⟨i, hi, ?_⟩
    have : nf l i = (j : Int) := by simpa using h
    unfold nf at this
    rw [List.getD, List.getElem?_eq_getElem hi] at this
    have h2 : ((l[i] : Nat) : Int) = (j : Int) := by simpa using this
    omega
  · rintro ⟨i, hi, rfl⟩
    refine ⟨i, by simpa using hi, ?_⟩
    unfold nf
    rw [List.getD, List.getElem?_eq_getElem hi]
    simp
theorem els_contains {p : Nat → Bool} {n j : Nat} (hj : j < n) : (els p n).contains j = p j := by
  rw [Bool.eq_iff_iff, List.contains_iff_mem, els_mem]
  exact ⟨fun h => h.2, fun h => ⟨hj, h⟩⟩

theorem hasl_any (a : Option Addr) (m c : Nat) (f : Nat → Int) (x : Int) (w : World) (hm : m ≤ 9223372036854775807) (hr : RdI w a m f) :
    Calls Tryd.prog 30 #[.slice a m c, .int .i64 x] w fun e w' => e = .returned (.bool (anyB m f x)) ∧ w = w' := by
  go_enter Tryd.func30, Tryd.ntmps30
  go_wp2
  go_loop [5] (fun s => ∃ k : Nat, k ≤ m ∧ s = .int .i64 k ∧ Hid (anyB k f x = false)) (fun s => m - (intOf s).toNat)
  case atStart => exact ⟨0, Nat.zero_le _, rfl, rfl⟩
  case round =>
    obtain ⟨k, hk, rfl, hF⟩ := hrel
    by_cases hlt : k < m
    · obtain ⟨b, o, rfl, hc⟩ := hr.at hlt
      have ck := hc k hlt
      have k1 : (k : Int) < (m : Int) := by omega
      clear hc hr
      by_cases e : f k = x
      · have E := Lib.hid (anyB_stop hlt e)
        have e1 : (f k == x) = true := by simp [e]
        clear e
        go_wp2
        go_ret
        rw [E.out]
        exact ⟨rfl, rfl⟩
      · have F2 := Lib.hid (show anyB (k + 1) f x = false by rw [anyB_succ, hF.out]; simp [e])
        have e1 : (f k == x) = false := by simp [e]
        clear e
        go_wp2
        go_roundw
        case rel => exact ⟨k + 1, hlt, by go_num, F2⟩
        case measure => simp [intOf]; omega
    · obtain rfl : k = m := by omega
      go_wp2
      go_ret
      rw [hF.out]
      exact ⟨rfl, rfl⟩

theorem inH_of {n I : Nat} (h : I < n) : inH n I = true := by unfold inH; simp; omega

/-- Before of two hits of valid hits. -/
theorem Before_ok (adr : Option Addr) (n c : Nat) (P T : Nat → Int) (I J : Nat) (w : World) (V : VH n P T) (hI : I < n) (hJ : J < n) (hw : WfH n P T) (hr : RdM w adr n P T) :
    Calls Tryd.prog 22 #[.slice adr n c, .int .i64 I, .int .i64 J] w (RetBE (bf P T I J) 0 w) := by
  have := Before_any adr n c P T I J w (by have := V.few; omega) hw hr
  have e1 : befG n P T I J = bf P T I J := by unfold befG; rw [vH_iff.2 V, inH_of hI, inH_of hJ]; rfl
  have e2 : errB n P T I J = 0 := by unfold errB; rw [vH_iff.2 V, inH_of hI, inH_of hJ]; rfl
  rwa [e1, e2] at this
theorem Past_ok (adr : Option Addr) (n c : Nat) (P T : Nat → Int) (I : Nat) (w : World) (V : VH n P T) (hI : I < n) (hw : WfH n P T) (hr : RdM w adr n P T) (hT : Tab w) :
    Calls Tryd.prog 24 #[.slice adr n c, .int .i64 I] w (RetLE (pastL n P T I) 0 w) := by
  have := Past_any adr n c P T I w (by have := V.few; omega) hw hr hT
  have e1 : pasG n P T I = pastL n P T I := by unfold pasG; rw [vH_iff.2 V, inH_of hI]; rfl
  have e2 : errP n P T I = 0 := by unfold errP; rw [vH_iff.2 V, inH_of hI]; rfl
  rwa [e1, e2] at this
theorem First_ok (adr : Option Addr) (n c : Nat) (P T : Nat → Int) (w : World) (V : VH n P T) (hw : WfH n P T) (hr : RdM w adr n P T) (hT : Tab w) :
    Calls Tryd.prog 28 #[.slice adr n c] w (RetLE (firstL n P T fun _ => true) 0 w) := by
  have := First_any adr n c P T w (by have := V.few; omega) hw hr hT
  have e1 : firG n P T = firstL n P T fun _ => true := by unfold firG; rw [vH_iff.2 V]; rfl
  have e2 : errH n P T = 0 := by unfold errH; rw [vH_iff.2 V]; rfl
  rwa [e1, e2] at this

/-- A hit is among those before which there is none just if nothing is before it. -/
theorem first_past {n : Nat} {P T : Nat → Int} {b : Nat} (hb : b < n) : (firstL n P T fun _ => true).contains b = decide ((pastL n P T b).length = 0) := by
  unfold firstL
  rw [els_contains hb, Bool.eq_iff_iff, decide_eq_true_eq]
  unfold frB pastL
  simp only [Bool.true_and, List.all_eq_true]
  constructor
  · intro h
    rw [els_none fun i hi => by simpa using h i (by simpa using hi)]
    rfl
  · intro h i hi
    have hi : i < n := by simpa using hi
    cases e : bf P T i b
    · rfl
    · have : i ∈ els (fun i => bf P T i b) n := els_mem.2 ⟨hi, e⟩
      rw [List.eq_nil_of_length_eq_zero h] at this
      cases this

end Go.Proofs.YtjokheeegcilhaaDoor
