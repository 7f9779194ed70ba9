/- Contracts of chapter 2: Before, Past, free, First of the program. -/
import Derived.Test.YthgbnjndljjbgaaDoorW12
import Derived.Test.YthgbnjndljjbgaaDoorP7
namespace Go.Proofs.YthgbnjndljjbgaaDoor
open Go.RowKit Go.Firn

theorem all_any {n p b1 b2 : Nat} {f g : Nat → Nat} (hn : n ≤ 14) (w : World) (O : OrdB w p b1 b2 n f g) :
    Calls Tryd.prog 75 #[.pointer (some ⟨p, 0, none⟩)] w fun e w' => e = .returned (.int .u16 (2 ^ n - 1 : Nat)) ∧ w = w' := by
  have c0 := O.c0
  have e10 := shl_u16 (show n ≤ 15 by omega)
  have p14 := pow14 hn
  have pp := Nat.two_pow_pos n
  have e11 : IntKind.u16.wrap ((2 : Int) ^ n - 1) = ((2 ^ n - 1 : Nat) : Int) := by
    rw [ipow]; generalize 2 ^ n = q at p14 pp ⊢; rw [IntWalk.u16_in _ (by omega)]; omega
  clear p14 pp
  go_enter Tryd.func75, Tryd.ntmps75
  go_wp2
  go_ret
  exact ⟨by first | rfl | (rw [← e11]; rfl), rfl⟩

set_option maxHeartbeats 1000000 in
theorem free_any {n p b1 b2 : Nat} {P T : Nat → Int} (hn : n ≤ 14) (s : Nat) (w : World) (hs : s < 2 ^ n) (hT : Tab w) (O : OrdB w p b1 b2 n (pastM n P T) (futM n P T)) :
    Calls Tryd.prog 74 #[.pointer (some ⟨p, 0, none⟩), .int .u16 s] w fun e w' => e = .returned (.int .u16 (freeM n P T s : Nat)) ∧ Gr w w' := by
  have HO := Lib.hid O
  have HS := Lib.hid hs
  have s16 : s < 65536 := by have := pow14 hn; omega
  have S16 := Lib.hid s16
  have LE := Lib.hid (show (els s.testBit 16).length ≤ 16 by rw [els_length]; exact cnt_le _ _)
  have LM := Lib.hid (show ∀ k, k < (els s.testBit 16).length → (els s.testBit 16).getD k 0 < n from fun k hk => by
    obtain ⟨h1, h2⟩ := els_lt hk
    rcases Nat.lt_or_ge ((els s.testBit 16).getD k 0) n with h | h
    · exact h
    · rw [bit_ge hs h] at h2; cases h2)
  have FF := Lib.hid (fun out (h : FreeK n P T s (els s.testBit 16) (els s.testBit 16).length out) => h.fin hs (by omega))
  have FY := Lib.hid (fun k out (h : FreeK n P T s (els s.testBit 16) k out) (hk : k < (els s.testBit 16).length) => h.yes hk)
  have FN := Lib.hid (fun k out (h : FreeK n P T s (els s.testBit 16) k out) (hk : k < (els s.testBit 16).length) => h.no hk)
  have F0 := Lib.hid (FreeK.zero n P T s (els s.testBit 16))
  have C := Lib.hid (list_any s w s16 hT)
  generalize els s.testBit 16 = L at LE LM FF FY FN F0 C
  clear hs O s16
  go_enter Tryd.func74, Tryd.ntmps74
  go_wp2_with (go_at_call 70; refine C.out.mono ?_; rintro e w1 ⟨a, c, rfl, r1, r2, r3, g1⟩; have R3 := Lib.hid r3; have O1 := Lib.hid (HO.out.gr g1); clear r3 r1 r2)
  go_loopw [5, 11] (fun so si wr => ∃ k out : Nat, k ≤ L.length ∧ si = .int .i64 k ∧ so = .int .u16 out ∧ Hid (FreeK n P T s L k out) ∧ Hid (out < 65536) ∧ wr = w1) (fun _ si _ => L.length - (intOf si).toNat)
  case atStart => exact ⟨0, 0, Nat.zero_le _, rfl, rfl, F0.out, (by show 0 < _; omega), rfl⟩
  case round =>
    obtain ⟨k, out, hk, rfl, rfl, hF, hO, rfl⟩ := hrel
    by_cases hlt : k < L.length
    · obtain ⟨b, o, rfl, hc⟩ := R3.out.at hlt
      have ck := hc k hlt
      have hX := LM.out k hlt
      have FYk := Lib.hid (FY.out k out hF.out hlt)
      have FNk := Lib.hid (FN.out k out hF.out hlt)
      unfold nf at ck
      generalize L.getD k 0 = x at ck hX FYk FNk
      have o0 := O1.out.c0
      have r1 := (O1.out.r1 x hX).1
      have i1 : (x : Int) < (n : Int) := by omega
      have f1 := pastM_lt (n := n) (P := P) (T := T) hn x
      have e5 := and_u16 (a := pastM n P T x) (b := s) (by omega) S16.out
      have FA := Lib.hid (show freeAt n P T s x = (pastM n P T x &&& s == 0) from rfl)
      have kl : (k : Int) < (L.length : Int) := by omega
      have LE' := LE.out
      have kw : IntKind.i64.wrap ((k : Int) + 1) = (k : Int) + 1 := IntWalk.i64_in _ (by omega)
      clear hc f1
      by_cases hz : pastM n P T x &&& s = 0
      · have F2 := Lib.hid (FYk.out (by rw [FA.out, hz]; rfl))
        have e10 := shl_u16 (show x ≤ 15 by omega)
        have e11 := orp_u16 (x := out) (a := x) hO.out (by omega)
        have O2 := Lib.hid (show out ||| 2 ^ x < 65536 from Nat.or_lt_two_pow (n := 16) hO.out (pow_u16 (by omega)))
        rw [hz] at e5
        clear hz
        go_wp2_with fail
        go_roundw
        case rel => exact ⟨k + 1, _, hlt, by go_num, rfl, F2.out, O2, by trivial⟩
        case measure => simp [intOf]; omega
      · have F2 := Lib.hid (FNk.out (by rw [FA.out]; simpa using hz))
        have hz2 : ((((pastM n P T x &&& s) : Nat) : Int) == 0) = false := by simpa using hz
        clear hz
        go_wp2_with fail
        go_roundw
        case rel => exact ⟨k + 1, out, hlt, by go_num, rfl, F2.out, hO, by trivial⟩
        case measure => simp [intOf]; omega
    · obtain rfl : k = L.length := by omega
      have E := Lib.hid (FF.out out hF.out)
      go_wp2_with fail
      go_ret
      rw [← E.out]
      exact ⟨rfl, g1⟩

end Go.Proofs.YthgbnjndljjbgaaDoor
