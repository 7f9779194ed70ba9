/- Contracts of chapter 2: isLayer of the program. -/
import Derived.Test.YthgbnjndljjbgaaDoorW9
namespace Go.Proofs.YthgbnjndljjbgaaDoor
open Go.RowKit Go.Firn

theorem rdI_drewN {w : World} {a : Option Addr} {n : Nat} {f : Nat → Int} (h : RdI w a n f) {w' : World} (g : ∃ m, w' = w.drewN m) : RdI w' a n f := by
  obtain ⟨m, rfl⟩ := g
  exact h.gr ((Gr.refl w).drewN m)
theorem ordB_drewN {w : World} {p b1 b2 n : Nat} {f g : Nat → Nat} (h : OrdB w p b1 b2 n f g) {w' : World} (k : ∃ m, w' = w.drewN m) : OrdB w' p b1 b2 n f g := by
  obtain ⟨m, rfl⟩ := k
  exact h.gr ((Gr.refl w).drewN m)

set_option maxHeartbeats 1000000 in
set_option maxRecDepth 20000 in
theorem isLayer_any {n p b1 b2 : Nat} {P T : Nat → Int} (hn : n ≤ 14) (a : Option Addr) (m c : Nat) (l : Nat → Int) (w : World) (hm : m ≤ 100) (hmc : m ≤ c) (O : OrdB w p b1 b2 n (pastM n P T) (futM n P T)) (hr : RdI w a m l) :
    Calls Tryd.prog 64 #[.pointer (some ⟨p, 0, none⟩), .slice a m c] w (RetQ (layB n P T m l) w) := by
  have HO := Lib.hid O
  have HR := Lib.hid hr
  clear O hr
  go_enter Tryd.func64, Tryd.ntmps64
  go_wp2
  go_loopw [11] (fun s wr => ∃ k : Nat, k ≤ m ∧ s = .int .i64 k ∧ Hid (layK n P T l k = true) ∧ Hid (∃ d, wr = w.drewN d)) (fun s _ => m - (intOf s).toNat)
  case atStart => exact ⟨0, Nat.zero_le _, rfl, layK_zero n P T l, 0, rfl⟩
  case round =>
    obtain ⟨k, hk, rfl, hK, hd⟩ := hrel
    by_cases hlt : k < m
    · obtain ⟨b, o, rfl, hc⟩ := (rdI_drewN HR.out hd.out).at hlt
      have ck := hc k hlt
      have i1 : (k : Int) < (m : Int) := by omega
      by_cases h1 : inH n (l k) = true
      · have H1 := Lib.hid (show Calls Tryd.prog 67 #[.pointer (some ⟨p, 0, none⟩), .int .i64 (l k)] wr (fun e w' => e = .returned (.bool true) ∧ wr = w') from by have := isHit_any hn (l k) wr (ordB_drewN HO.out hd.out); rw [h1] at this; exact this)
        obtain ⟨I, hI, eI⟩ := inH_nat h1
        by_cases h2 : 0 < k ∧ l k ≤ l (k - 1)
        · have E := Lib.hid (show layB n P T m l = false from layB_stop hlt (by rw [layAt_eq]; simp [h2]))
          obtain ⟨h3, h4⟩ := h2
          have cp := hc (k - 1) (by omega)
          have e1 : (k : Int) - 1 = ((k - 1 : Nat) : Int) := by omega
          have e2 : IntKind.i64.wrap ((k : Int) - 1) = ((k - 1 : Nat) : Int) := by rw [IntWalk.i64_in _ (by omega)]; omega
          have i2 : ((k - 1 : Nat) : Int) < (m : Int) := by omega
          clear eI hI
          go_wp2_with (go_at_call 67; (with_reducible refine H1.out.mono ?_); rintro e w1 ⟨rfl, rfl⟩)
          go_ret
          rw [E.out]
          exact ⟨rfl, hd.out⟩
        · have N1 := Lib.hid (show (decide (0 < k) && decide (l k ≤ l (k - 1))) = false by
            cases h : (decide (0 < k) && decide (l k ≤ l (k - 1)))
            · rfl
            · simp only [Bool.and_eq_true, decide_eq_true_eq] at h; exact absurd h h2)
          have A1 := Lib.hid (show layAt n P T l k = layJ P T l k k by rw [layAt_eq, h1, N1.out]; rfl)
          have kc : (k : Int) ≤ (c : Int) := by omega
          rw [eI] at ck H1 h1
          by_cases k0 : 0 < k
          · have h3 : ¬ (I : Int) ≤ l (k - 1) := by rw [← eI]; exact fun h => h2 ⟨k0, h⟩
            have cp := hc (k - 1) (by omega)
            have e1 : (k : Int) - 1 = ((k - 1 : Nat) : Int) := by omega
            have e2 : IntKind.i64.wrap ((k : Int) - 1) = ((k - 1 : Nat) : Int) := by rw [IntWalk.i64_in _ (by omega)]; omega
            have i2 : ((k - 1 : Nat) : Int) < (m : Int) := by omega
            clear h2
            go_wp2_with (go_at_call 67; (with_reducible refine H1.out.mono ?_); rintro e w1 ⟨rfl, rfl⟩)
            clear cp e1 e2 i2 h3
            go_loopw [37] (fun s wx => ∃ j : Nat, j ≤ k ∧ s = .int .i64 j ∧ Hid (layJ P T l k j = true) ∧ Hid (∃ d, wx = w.drewN d)) (fun s _ => k - (intOf s).toNat)
            case atStart => exact ⟨0, Nat.zero_le _, rfl, layJ_zero P T l k, hd⟩
            case round =>
              clear ck hc
              obtain ⟨j, hj, rfl, hJ, hd2⟩ := hrel
              by_cases hl2 : j < k
              · obtain ⟨J, hJn, eJ⟩ := layK_at hK.out hl2
                obtain ⟨b', o', e9, hc⟩ := (rdI_drewN HR.out hd2.out).at hlt
                simp at e9
                obtain ⟨rfl, rfl⟩ := e9
                have cj := hc j (by omega)
                rw [eJ] at cj
                have O2 := ordB_drewN HO.out hd2.out
                have o0 := O2.c0
                have o1 := O2.c1
                have r1 := (O2.r1 I hI).1
                have r2 := (O2.r2 I hI).1
                have j1 : (j : Int) < (k : Int) := by omega
                have j2 : (I : Int) < (n : Int) := by omega
                have f1 := pastM_lt (n := n) (P := P) (T := T) hn I
                have f2 := futM_lt (n := n) (P := P) (T := T) hn I
                have e5 := or_u16 (a := pastM n P T I) (b := futM n P T I) (by omega) (by omega)
                have KB := Lib.hid (know_bit (n := n) (P := P) (T := T) (i := I) hJn)
                have CM := Lib.hid (show cmpd P T (l k).toNat (l j).toNat = cmpd P T I J by rw [eI, eJ]; rfl)
                have OR := Lib.hid (show pastM n P T I ||| futM n P T I < 65536 from Nat.or_lt_two_pow (n := 16) (by omega) (by omega))
                clear O2 hc f1 f2
                generalize pastM n P T I ||| futM n P T I = q at e5 KB OR
                cases hb : cmpd P T I J with
                | true =>
                  have E := Lib.hid (show layB n P T m l = false from layB_stop hlt (layAt_know hl2 (by rw [CM.out, hb])))
                  have S := Lib.hid (show ∀ w : World, Calls Tryd.prog 68 #[.int .u16 q, .int .i64 J] w (fun e w' => e = .returned (.bool true) ∧ w' = w) from fun w => by have := has_any q J OR.out (by omega) w; rw [KB.out, hb] at this; exact this.mono fun _ _ h => ⟨h.1, h.2.symm⟩)
                  clear hb
                  go_wp2_with fail
                  go_quiet ((go_at_call 68; with_reducible exact Calls.quiet_of_same (S.out _)))
                  go_wp2_with fail
                  go_ret
                  rw [E.out]
                  exact ⟨rfl, drewN_more hd2.out _⟩
                | false =>
                  have F := Lib.hid (show layJ P T l k (j + 1) = true by rw [layJ_succ, hJ.out, CM.out, hb]; rfl)
                  have S := Lib.hid (show ∀ w : World, Calls Tryd.prog 68 #[.int .u16 q, .int .i64 J] w (fun e w' => e = .returned (.bool false) ∧ w' = w) from fun w => by have := has_any q J OR.out (by omega) w; rw [KB.out, hb] at this; exact this.mono fun _ _ h => ⟨h.1, h.2.symm⟩)
                  clear hb
                  go_wp2_with fail
                  go_quiet ((go_at_call 68; with_reducible exact Calls.quiet_of_same (S.out _)))
                  go_wp2_with fail
                  go_roundw
                  case rel => exact ⟨j + 1, hl2, by go_num, F, drewN_more hd2.out _⟩
                  case measure => simp [intOf]; omega
              · obtain rfl : j = k := by omega
                have F := Lib.hid (show layK n P T l (j + 1) = true by rw [layK_succ, hK.out, A1.out, hJ.out]; rfl)
                go_wp2_with fail
                go_roundw
                case rel => exact ⟨j + 1, hlt, by go_num, F, hd2⟩
                case measure => simp [intOf]; omega
          · have k1 : ¬ (0 : Int) < (k : Int) := by omega
            clear h2
            go_wp2_with (go_at_call 67; (with_reducible refine H1.out.mono ?_); rintro e w1 ⟨rfl, rfl⟩)
            go_loopw [37] (fun s wx => ∃ j : Nat, j ≤ k ∧ s = .int .i64 j ∧ Hid (layJ P T l k j = true) ∧ Hid (∃ d, wx = w.drewN d)) (fun s _ => k - (intOf s).toNat)
            case atStart => exact ⟨0, Nat.zero_le _, rfl, layJ_zero P T l k, hd⟩
            case round =>
              clear ck hc
              obtain ⟨j, hj, rfl, hJ, hd2⟩ := hrel
              by_cases hl2 : j < k
              · omega
              · obtain rfl : j = k := by omega
                have F := Lib.hid (show layK n P T l (j + 1) = true by rw [layK_succ, hK.out, A1.out, hJ.out]; rfl)
                go_wp2_with fail
                go_roundw
                case rel => exact ⟨j + 1, hlt, by go_num, F, hd2⟩
                case measure => simp [intOf]; omega
      · have h1' : inH n (l k) = false := by simpa using h1
        have E := Lib.hid (show layB n P T m l = false from layB_stop hlt (by rw [layAt_eq, h1']; rfl))
        have H1 := Lib.hid (show Calls Tryd.prog 67 #[.pointer (some ⟨p, 0, none⟩), .int .i64 (l k)] wr (fun e w' => e = .returned (.bool false) ∧ wr = w') from by have := isHit_any hn (l k) wr (ordB_drewN HO.out hd.out); rw [h1'] at this; exact this)
        clear h1
        go_wp2_with (go_at_call 67; (with_reducible refine H1.out.mono ?_); rintro e w1 ⟨rfl, rfl⟩)
        go_ret
        rw [E.out]
        exact ⟨rfl, hd.out⟩
    · obtain rfl : k = m := by omega
      have E := Lib.hid (show layB n P T k l = btw 1 k 50 by
        unfold layB btw
        rw [hK.out]
        simp only [Bool.true_and]
        congr 1 <;> (congr 1; apply propext; omega))
      go_wp2_with (go_at_call 71; refine (between_any _ _ _ _).mono ?_; rintro e w1 ⟨rfl, rfl⟩)
      go_ret
      rw [E.out]
      exact ⟨rfl, hd.out⟩

end Go.Proofs.YthgbnjndljjbgaaDoor
