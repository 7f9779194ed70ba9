/- Contracts of chapter 2: isLayer of the program. Contracts of chapter 2: isLayer of the reference. Contracts of chapter 2: IsLayer of the program and of the reference, and the sanity check. -/
import Derived.Test.YtjokheeegcilhaaDoorW9
namespace Go.Proofs.YtjokheeegcilhaaDoor
open Go.RowKit Go.Firn

theorem rdI_drewN {w : World} {a : Option Addr} {n : Nat} {f : Nat → Int} (h : RdI w a n f) {w' : World} (g : ∃ m, w' = w.drewN m) : RdI w' a n f := by
  obtain ⟨m, rfl⟩ := g
  exact h.gr ((Gr.refl w).drewN m)
theorem ordB_drewN {w : World} {p b1 b2 n : Nat} {f g : Nat → Nat} (h : OrdB w p b1 b2 n f g) {w' : World} (k : ∃ m, w' = w.drewN m) : OrdB w' p b1 b2 n f g := by
  obtain ⟨m, rfl⟩ := k
  exact h.gr ((Gr.refl w).drewN m)

set_option maxHeartbeats 1000000 in
set_option maxRecDepth 20000 in
theorem isLayer_any {n p b1 b2 : Nat} {P T : Nat → Int} (hn : n ≤ 14) (a : Option Addr) (m c : Nat) (l : Nat → Int) (w : World) (hm : m ≤ 100) (hmc : m ≤ c) (O : OrdB w p b1 b2 n (pastM n P T) (futM n P T)) (hr : RdI w a m l) :
    Calls Tryd.prog 64 #[.pointer (some ⟨p, 0, none⟩), .slice a m c] w (RetQ (layB n P T m l) w) := by
  have HO := Lib.hid O
  have HR := Lib.hid hr
  clear O hr
  go_enter Tryd.func64, Tryd.ntmps64
  go_wp2
  go_loopw [11] (fun s wr => ∃ k : Nat, k ≤ m ∧ s = .int .i64 k ∧ Hid (layK n P T l k = true) ∧ Hid (∃ d, wr = w.drewN d)) (fun s _ => m - (intOf s).toNat)
  case atStart => exact ⟨0, Nat.zero_le _, rfl, layK_zero n P T l, 0, rfl⟩
  case round =>
    obtain ⟨k, hk, rfl, hK, hd⟩ := hrel
    by_cases hlt : k < m
    · obtain ⟨b, o, rfl, hc⟩ := (rdI_drewN HR.out hd.out).at hlt
      have ck := hc k hlt
      have i1 : (k : Int) < (m : Int) := by omega
      by_cases h1 : inH n (l k) = true
      · have H1 := Lib.hid (show Calls Tryd.prog 67 #[.pointer (some ⟨p, 0, none⟩), .int .i64 (l k)] wr (fun e w' => e = .returned (.bool true) ∧ wr = w') from by have := isHit_any hn (l k) wr (ordB_drewN HO.out hd.out); rw [h1] at this; exact this)
        obtain ⟨I, hI, eI⟩ := inH_nat h1
        by_cases h2 : 0 < k ∧ l k ≤ l (k - 1)
        · have E := Lib.hid (show layB n P T m l = false from layB_stop hlt (by rw [layAt_eq]; simp [h2]))
          obtain ⟨h3, h4⟩ := h2
          have cp := hc (k - 1) (by omega)
          have e1 : (k : Int) - 1 = ((k - 1 : Nat) : Int) := by omega
          have e2 : IntKind.i64.wrap ((k : Int) - 1) = ((k - 1 : Nat) : Int) := by rw [IntWalk.i64_in _ (by omega)]; omega
          have i2 : ((k - 1 : Nat) : Int) < (m : Int) := by omega
          clear eI hI
          go_wp2_with (go_at_call 67; (with_reducible refine H1.out.mono ?_); rintro e w1 ⟨rfl, rfl⟩)
          go_ret
          rw [E.out]
          exact ⟨rfl, hd.out⟩
        · have N1 := Lib.hid (show (decide (0 < k) && decide (l k ≤ l (k - 1))) = false by
            cases h : (decide (0 < k) && decide (l k ≤ l (k - 1)))
            · rfl
            · simp only [Bool.and_eq_true, decide_eq_true_eq] at h; exact absurd h h2)
          have A1 := Lib.hid (show layAt n P T l k = layJ P T l k k by rw [layAt_eq, h1, N1.out]; rfl)
          have kc : (k : Int) ≤ (c : Int) := by omega
          rw [eI] at ck H1 h1
          by_cases k0 : 0 < k
          · have h3 : ¬ (I : Int) ≤ l (k - 1) := by rw [← eI]; exact fun h => h2 ⟨k0, h⟩
            have cp := hc (k - 1) (by omega)
            have e1 : (k : Int) - 1 = ((k - 1 : Nat) : Int) := by omega
            have e2 : IntKind.i64.wrap ((k : Int) - 1) = ((k - 1 : Nat) : Int) := by rw [IntWalk.i64_in _ (by omega)]; omega
            have i2 : ((k - 1 : Nat) : Int) < (m : Int) := by omega
            clear h2
            go_wp2_with (go_at_call 67; (with_reducible refine H1.out.mono ?_); rintro e w1 ⟨rfl, rfl⟩)
            clear cp e1 e2 i2 h3
            go_loopw [37] (fun s wx => ∃ j : Nat, j ≤ k ∧ s = .int .i64 j ∧ Hid (layJ P T l k j = true) ∧ Hid (∃ d, wx = w.drewN d)) (fun s _ => k - (intOf s).toNat)
            case atStart => exact ⟨0, Nat.zero_le _, rfl, layJ_zero P T l k, hd⟩
            case round =>
              clear ck hc
              obtain ⟨j, hj, rfl, hJ, hd2⟩ := hrel
              by_cases hl2 : j < k
              · obtain ⟨J, hJn, eJ⟩ := layK_at hK.out hl2
                obtain ⟨b', o', e9, hc⟩ := (rdI_drewN HR.out hd2.out).at hlt
                simp at e9
                obtain ⟨rfl, rfl⟩ := e9
                have cj := hc j (by omega)
                rw [eJ] at cj
                have O2 := ordB_drewN HO.out hd2.out
                have o0 := O2.c0
                have o1 := O2.c1
                have r1 := (O2.r1 I hI).1
                have r2 := (O2.r2 I hI).1
                have j1 : (j : Int) < (k : Int) := by omega
                have j2 : (I : Int) < (n : Int) := by omega
                have f1 := pastM_lt (n := n) (P := P) (T := T) hn I
                have f2 := futM_lt (n := n) (P := P) (T := T) hn I
                have e5 := or_u16 (a := pastM n P T I) (b := futM n P T I) (by omega) (by omega)
                have KB := Lib.hid (know_bit (n := n) (P := P) (T := T) (i := I) hJn)
                have CM := Lib.hid (show cmpd P T (l k).toNat (l j).toNat = cmpd P T I J by rw [eI, eJ]; rfl)
                have OR := Lib.hid (show pastM n P T I ||| futM n P T I < 65536 from Nat.or_lt_two_pow (n := 16) (by omega) (by omega))
                clear O2 hc f1 f2
                generalize pastM n P T I ||| futM n P T I = q at e5 KB OR
                cases hb : cmpd P T I J with
                | true =>
                  have E := Lib.hid (show layB n P T m l = false from layB_stop hlt (layAt_know hl2 (by rw [CM.out, hb])))
                  have S := Lib.hid (show ∀ w : World, Calls Tryd.prog 68 #[.int .u16 q, .int .i64 J] w (fun e w' => e = .returned (.bool true) ∧ w' = w) from fun w => by have := has_any q J OR.out (by omega) w; rw [KB.out, hb] at this; exact this.mono fun _ _ h => ⟨h.1, h.2.symm⟩)
                  clear hb
                  go_wp2_with fail
                  go_quiet ((go_at_call 68; with_reducible exact Calls.quiet_of_same (S.out _)))
                  go_wp2_with fail
                  go_ret
                  rw [E.out]
                  exact ⟨rfl, drewN_more hd2.out _⟩
                | false =>
                  have F := Lib.hid (show layJ P T l k (j + 1) = true by rw [layJ_succ, hJ.out, CM.out, hb]; rfl)
                  have S := Lib.hid (show ∀ w : World, Calls Tryd.prog 68 #[.int .u16 q, .int .i64 J] w (fun e w' => e = .returned (.bool false) ∧ w' = w) from fun w => by have := has_any q J OR.out (by omega) w; rw [KB.out, hb] at this; exact this.mono fun _ _ h => ⟨h.1, h.2.symm⟩)
                  clear hb
                  go_wp2_with fail
                  go_quiet ((go_at_call 68; with_reducible exact Calls.quiet_of_same (S.out _)))
                  go_wp2_with fail
                  go_roundw
                  case rel => exact ⟨j + 1, hl2, by go_num, F, drewN_more hd2.out _⟩
                  case measure => simp [intOf]; omega
              · obtain rfl : j = k := by omega
                have F := Lib.hid (show layK n P T l (j + 1) = true by rw [layK_succ, hK.out, A1.out, hJ.out]; rfl)
                go_wp2_with fail
                go_roundw
                case rel => exact ⟨j + 1, hlt, by go_num, F, hd2⟩
                case measure => simp [intOf]; omega
          · have k1 : ¬ (0 : Int) < (k : Int) := by omega
            clear h2
            go_wp2_with (go_at_call 67; (with_reducible refine H1.out.mono ?_); rintro e w1 ⟨rfl, rfl⟩)
            go_loopw [37] (fun s wx => ∃ j : Nat, j ≤ k ∧ s = .int .i64 j ∧ Hid (layJ P T l k j = true) ∧ Hid (∃ d, wx = w.drewN d)) (fun s _ => k - (intOf s).toNat)
            case atStart => exact ⟨0, Nat.zero_le _, rfl, layJ_zero P T l k, hd⟩
            case round =>
              clear ck hc
              obtain ⟨j, hj, rfl, hJ, hd2⟩ := hrel
              by_cases hl2 : j < k
              · omega
              · obtain rfl : j = k := by omega
                have F := Lib.hid (show layK n P T l (j + 1) = true by rw [layK_succ, hK.out, A1.out, hJ.out]; rfl)
                go_wp2_with fail
                go_roundw
                case rel => exact ⟨j + 1, hlt, by go_num, F, hd2⟩
                case measure => simp [intOf]; omega
      · have h1' : inH n (l k) = false := by simpa using h1
        have E := Lib.hid (show layB n P T m l = false from layB_stop hlt (by rw [layAt_eq, h1']; rfl))
        have H1 := Lib.hid (show Calls Tryd.prog 67 #[.pointer (some ⟨p, 0, none⟩), .int .i64 (l k)] wr (fun e w' => e = .returned (.bool false) ∧ wr = w') from by have := isHit_any hn (l k) wr (ordB_drewN HO.out hd.out); rw [h1'] at this; exact this)
        clear h1
        go_wp2_with (go_at_call 67; (with_reducible refine H1.out.mono ?_); rintro e w1 ⟨rfl, rfl⟩)
        go_ret
        rw [E.out]
        exact ⟨rfl, hd.out⟩
    · obtain rfl : k = m := by omega
      have E := Lib.hid (show layB n P T k l = btw 1 k 50 by
        unfold layB btw
        rw [hK.out]
        simp only [Bool.true_and]
        congr 1 <;> (congr 1; apply propext; omega))
      go_wp2_with (go_at_call 71; refine (between_any _ _ _ _).mono ?_; rintro e w1 ⟨rfl, rfl⟩)
      go_ret
      rw [E.out]
      exact ⟨rfl, hd.out⟩

end Go.Proofs.YtjokheeegcilhaaDoor

namespace Go.Proofs.YtjokheeegcilhaaDoor
open Go.RowKit Go.Firn

theorem rdM_drewN {w : World} {a : Option Addr} {n : Nat} {f g : Nat → Int} (h : RdM w a n f g) {w' : World} (k : ∃ m, w' = w.drewN m) : RdM w' a n f g := by
  obtain ⟨m, rfl⟩ := k
  exact RdM.drewN h m

set_option maxHeartbeats 1000000 in
set_option maxRecDepth 20000 in
theorem refisLayer_any (adr : Option Addr) (n cc : Nat) (P T : Nat → Int) (V : VH n P T) (a : Option Addr) (m c : Nat) (l : Nat → Int) (w : World) (hm : m ≤ 100) (hh : RdM w adr n P T) (hr : RdI w a m l) :
    Calls Tryd.prog 65 #[.slice adr n cc, .slice a m c] w (RetQ (layB n P T m l) w) := by
  have hn := V.few
  have HV := Lib.hid V
  have HH := Lib.hid hh
  have HR := Lib.hid hr
  clear V hh hr
  go_enter Tryd.func65, Tryd.ntmps65
  go_wp2
  go_loopw [5] (fun s wr => ∃ k : Nat, k ≤ m ∧ k ≤ 51 ∧ s = .int .i64 k ∧ Hid (layK n P T l k = true) ∧ Hid (∃ d, wr = w.drewN d)) (fun s _ => m - (intOf s).toNat)
  case atStart => exact ⟨0, Nat.zero_le _, by omega, rfl, layK_zero n P T l, 0, rfl⟩
  case round =>
    obtain ⟨k, hk, hk51, rfl, hK, hd⟩ := hrel
    by_cases hlt : k < m
    · by_cases h51 : k ≤ 50
      · obtain ⟨b, o, rfl, hc⟩ := (rdI_drewN HR.out hd.out).at hlt
        have ck := hc k hlt
        have i1 : (k : Int) < (m : Int) := by omega
        have i5 : (k : Int) ≤ 50 := by omega
        by_cases h1 : inH n (l k) = true
        · have H1 := Lib.hid (show ∀ w : World, Calls Tryd.prog 69 #[.slice adr n cc, .int .i64 (l k)] w (fun e w' => e = .returned (.bool true) ∧ w' = w) from fun w => by have := refisHit_any adr n cc hn (l k) w; rw [h1] at this; exact this.mono fun _ _ h => ⟨h.1, h.2.symm⟩)
          obtain ⟨I, hI, eI⟩ := inH_nat h1
          by_cases h2 : 0 < k ∧ l k ≤ l (k - 1)
          · have E := Lib.hid (show layB n P T m l = false from layB_stop hlt (by rw [layAt_eq]; simp [h2]))
            obtain ⟨h3, h4⟩ := h2
            have cp := hc (k - 1) (by omega)
            have e1 : (k : Int) - 1 = ((k - 1 : Nat) : Int) := by omega
            have e2 : IntKind.i64.wrap ((k : Int) - 1) = ((k - 1 : Nat) : Int) := by rw [IntWalk.i64_in _ (by omega)]; omega
            have i2 : ((k - 1 : Nat) : Int) < (m : Int) := by omega
            have d1 : decide ((0 : Int) < (k : Int)) = true := by simp; omega
            have d2 : decide (l k ≤ l (k - 1)) = true := by simp; exact h4
            clear eI hI hc
            go_wp2_with fail
            go_quiet ((go_at_call 69; with_reducible exact Calls.quiet_of_same (H1.out _)))
            go_wp2_with fail
            go_ret
            rw [E.out]
            exact ⟨rfl, drewN_more hd.out _⟩
          · have N1 := Lib.hid (show (decide (0 < k) && decide (l k ≤ l (k - 1))) = false by
              cases h : (decide (0 < k) && decide (l k ≤ l (k - 1)))
              · rfl
              · simp only [Bool.and_eq_true, decide_eq_true_eq] at h; exact absurd h h2)
            have A1 := Lib.hid (show layAt n P T l k = layJ P T l k k by rw [layAt_eq, h1, N1.out]; rfl)
            rw [eI] at ck H1 h1
            by_cases k0 : 0 < k
            · have h3 : ¬ (I : Int) ≤ l (k - 1) := by rw [← eI]; exact fun h => h2 ⟨k0, h⟩
              have cp := hc (k - 1) (by omega)
              have e1 : (k : Int) - 1 = ((k - 1 : Nat) : Int) := by omega
              have e2 : IntKind.i64.wrap ((k : Int) - 1) = ((k - 1 : Nat) : Int) := by rw [IntWalk.i64_in _ (by omega)]; omega
              have i2 : ((k - 1 : Nat) : Int) < (m : Int) := by omega
              have d1 : decide ((0 : Int) < (k : Int)) = true := by simp; omega
              have d2 : decide ((I : Int) ≤ l (k - 1)) = false := by simpa using h3
              clear h2 hc
              go_wp2_with fail
              go_quiet ((go_at_call 69; with_reducible exact Calls.quiet_of_same (H1.out _)))
              go_wp2_with fail
              clear cp e1 e2 i2 h3 d1 d2
              go_loopw [6] (fun s wx => ∃ j : Nat, j ≤ k ∧ s = .int .i64 j ∧ Hid (layJ P T l k j = true) ∧ Hid (∃ d, wx = w.drewN d)) (fun s _ => k - (intOf s).toNat)
              case atStart => exact ⟨0, Nat.zero_le _, rfl, layJ_zero P T l k, drewN_more hd.out _⟩
              case round =>
                clear ck
                obtain ⟨j, hj, rfl, hJ, hd2⟩ := hrel
                by_cases hl2 : j < k
                · obtain ⟨J, hJn, eJ⟩ := layK_at hK.out hl2
                  obtain ⟨b', o', e9, hc⟩ := (rdI_drewN HR.out hd2.out).at hlt
                  simp at e9
                  obtain ⟨rfl, rfl⟩ := e9
                  have ck := hc k hlt
                  rw [eI] at ck
                  have cj := hc j (by omega)
                  rw [eJ] at cj
                  have j1 : (j : Int) < (k : Int) := by omega
                  have j2 : (j : Int) < (m : Int) := by omega
                  have CM := Lib.hid (show cmpd P T (l k).toNat (l j).toNat = (bf P T I J || bf P T J I) by rw [eI, eJ]; rfl)
                  clear hc
                  have S1 := Lib.hid (show ∀ d, Calls Tryd.prog 60 #[.slice adr n cc, .int .i64 I, .int .i64 J] (wr.drewN d) (RetQ (bf P T I J) (wr.drewN d)) from fun d => before_any adr n cc P T _ HV.out I J hI hJn (RdM.drewN (rdM_drewN HH.out hd2.out) d))
                  have S2 := Lib.hid (show ∀ d, Calls Tryd.prog 60 #[.slice adr n cc, .int .i64 J, .int .i64 I] (wr.drewN d) (RetQ (bf P T J I) (wr.drewN d)) from fun d => before_any adr n cc P T _ HV.out J I hJn hI (RdM.drewN (rdM_drewN HH.out hd2.out) d))
                  unfold RetQ at S1 S2
                  cases hb1 : bf P T I J with
                  | true =>
                    have E := Lib.hid (show layB n P T m l = false from layB_stop hlt (layAt_know hl2 (by rw [CM.out, hb1]; rfl)))
                    rw [hb1] at S1
                    clear hb1
                    go_wp2_with fail
                    go_quiet ((first | (go_at_call 60; with_reducible exact Calls.quiet_of (S1.out _)) | (go_at_call 60; with_reducible exact Calls.quiet_of (S2.out _))))
                    go_wp2_with fail
                    go_ret
                    rw [E.out]
                    exact ⟨rfl, drewN_more hd2.out _⟩
                  | false =>
                    rw [hb1] at S1
                    cases hb2 : bf P T J I with
                    | true =>
                      have E := Lib.hid (show layB n P T m l = false from layB_stop hlt (layAt_know hl2 (by rw [CM.out, hb1, hb2]; rfl)))
                      rw [hb2] at S2
                      clear hb1 hb2
                      go_wp2_with fail
                      go_quiet ((first | (go_at_call 60; with_reducible exact Calls.quiet_of (S1.out _)) | (go_at_call 60; with_reducible exact Calls.quiet_of (S2.out _))))
                      go_wp2_with fail
                      go_ret
                      rw [E.out]
                      exact ⟨rfl, drewN_more hd2.out _⟩
                    | false =>
                      have F := Lib.hid (show layJ P T l k (j + 1) = true by rw [layJ_succ, hJ.out, CM.out, hb1, hb2]; rfl)
                      rw [hb2] at S2
                      clear hb1 hb2
                      go_wp2_with fail
                      go_quiet ((first | (go_at_call 60; with_reducible exact Calls.quiet_of (S1.out _)) | (go_at_call 60; with_reducible exact Calls.quiet_of (S2.out _))))
                      go_wp2_with fail
                      go_roundw
                      case rel => exact ⟨j + 1, hl2, by go_num, F, drewN_more hd2.out _⟩
                      case measure => simp [intOf]; omega
                · obtain rfl : j = k := by omega
                  have F := Lib.hid (show layK n P T l (j + 1) = true by rw [layK_succ, hK.out, A1.out, hJ.out]; rfl)
                  go_wp2_with fail
                  go_roundw
                  case rel => exact ⟨j + 1, hlt, by omega, by go_num, F, hd2⟩
                  case measure => simp [intOf]; omega
            · have k1 : ¬ (0 : Int) < (k : Int) := by omega
              have d1 : decide ((0 : Int) < (k : Int)) = false := by simp; omega
              clear h2 hc
              go_wp2_with fail
              go_quiet ((go_at_call 69; with_reducible exact Calls.quiet_of_same (H1.out _)))
              go_wp2_with fail
              go_loopw [6] (fun s wx => ∃ j : Nat, j ≤ k ∧ s = .int .i64 j ∧ Hid (layJ P T l k j = true) ∧ Hid (∃ d, wx = w.drewN d)) (fun s _ => k - (intOf s).toNat)
              case atStart => exact ⟨0, Nat.zero_le _, rfl, layJ_zero P T l k, drewN_more hd.out _⟩
              case round =>
                clear ck
                obtain ⟨j, hj, rfl, hJ, hd2⟩ := hrel
                by_cases hl2 : j < k
                · omega
                · obtain rfl : j = k := by omega
                  have F := Lib.hid (show layK n P T l (j + 1) = true by rw [layK_succ, hK.out, A1.out, hJ.out]; rfl)
                  go_wp2_with fail
                  go_roundw
                  case rel => exact ⟨j + 1, hlt, by omega, by go_num, F, hd2⟩
                  case measure => simp [intOf]; omega
        · have h1' : inH n (l k) = false := by simpa using h1
          have E := Lib.hid (show layB n P T m l = false from layB_stop hlt (by rw [layAt_eq, h1']; rfl))
          have H1 := Lib.hid (show ∀ w : World, Calls Tryd.prog 69 #[.slice adr n cc, .int .i64 (l k)] w (fun e w' => e = .returned (.bool false) ∧ w' = w) from fun w => by have := refisHit_any adr n cc hn (l k) w; rw [h1'] at this; exact this.mono fun _ _ h => ⟨h.1, h.2.symm⟩)
          clear h1 hc
          go_wp2_with fail
          go_quiet ((go_at_call 69; with_reducible exact Calls.quiet_of_same (H1.out _)))
          go_wp2_with fail
          go_ret
          rw [E.out]
          exact ⟨rfl, drewN_more hd.out _⟩
      · have E := Lib.hid (show layB n P T m l = false by
          have : decide (m ≤ 50) = false := by simp; omega
          unfold layB; rw [this]; simp)
        have i1 : (k : Int) < (m : Int) := by omega
        have i5 : ¬ (k : Int) ≤ 50 := by omega
        go_wp2_with fail
        go_ret
        rw [E.out]
        refine ⟨?_, hd.out⟩
        have : decide ((m : Int) ≤ 50) = false := by simp; omega
        rw [← this]
        rfl
    · obtain rfl : k = m := by omega
      have E := Lib.hid (show layB n P T k l = (decide ((0 : Int) < (k : Int)) && decide ((k : Int) ≤ 50)) by
        unfold layB
        rw [hK.out]
        simp only [Bool.true_and]
        congr 1 <;> (congr 1; apply propext; omega))
      by_cases p0 : 0 < k
      · have p1 : (0 : Int) < (k : Int) := by omega
        have E2 := Lib.hid (show layB n P T k l = decide ((k : Int) ≤ 50) by rw [E.out, decide_eq_true p1]; rfl)
        clear E
        go_wp2_with fail
        all_goals go_ret
        all_goals rw [E2.out]
        all_goals exact ⟨rfl, hd.out⟩
      · have p1 : ¬ (0 : Int) < (k : Int) := by omega
        have E2 := Lib.hid (show layB n P T k l = false by rw [E.out, decide_eq_false p1]; rfl)
        clear E
        go_wp2_with fail
        all_goals go_ret
        all_goals rw [E2.out]
        all_goals exact ⟨rfl, hd.out⟩

end Go.Proofs.YtjokheeegcilhaaDoor

namespace Go.Proofs.YtjokheeegcilhaaDoor
open Go.RowKit Go.Firn

/-- A bool and an error. -/
def RetBE (b : Bool) (err : Int) (w : World) (e : Ending) (w' : World) : Prop := e = .returned (.tuple #[.bool b, .int .i64 err]) ∧ Gr w w'
theorem RetQ.gr {b : Bool} {w w' : World} {e : Ending} (h : RetQ b w e w') : e = .returned (.bool b) ∧ Gr w w' := h.b

/-- What IsLayer gives. -/
def isLayG (n : Nat) (P T : Nat → Int) (m : Nat) (l : Nat → Int) : Bool := vH n P T && layB n P T m l

theorem IsLayer_any (adr : Option Addr) (n cc : Nat) (P T : Nat → Int) (a : Option Addr) (m c : Nat) (l : Nat → Int) (w : World) (hn : n ≤ 1000) (hw : WfH n P T) (hm : m ≤ 100) (hmc : m ≤ c) (hh : RdM w adr n P T) (hr : RdI w a m l) :
    Calls Tryd.prog 19 #[.slice adr n cc, .slice a m c] w (RetBE (isLayG n P T m l) (errH n P T) w) := by
  have hmf : ∀ (fn : Fn) (first cap : Array Value) (w : World), (Instr.makeFunc fn first cap).run Tryd.prog w = .ok (.func fn first cap) w := fun _ _ _ _ => rfl
  have HW := Lib.hid hw
  have HH := Lib.hid hh
  have HR := Lib.hid hr
  have cb := Lib.hid ((Gr.refl (w.alloc (.cells #[.slice a m c] 23))).fresh' (b := w.heap.size) (j := 0) (v := .slice a m c) rfl rfl).1
  have G0 := Lib.hid ((Gr.refl w).alloc (.cells #[.slice a m c] 23))
  clear hw hh hr
  cases hv : vH n P T with
  | true =>
    have HV := Lib.hid (vH_iff.1 hv)
    have e1 := Lib.hid (show isLayG n P T m l = layB n P T m l by unfold isLayG; rw [hv]; rfl)
    have e2 := Lib.hid (show errH n P T = 0 by unfold errH; rw [if_pos hv])
    rw [e1.out, e2.out]
    clear hv
    go_enter Tryd.func19, Tryd.ntmps19
    go_wp2_with (first
      | (go_at_call 66; refine (open_any adr n cc P T _ HV.out HW.out (HH.out.gr G0.out)).mono ?_; rintro e w1 ⟨p, b1, b2, rfl, O, g1, l1⟩; have c1 := g1.cell cb.out; have HO := Lib.hid O; clear O)
      | (go_at_call 64; refine (isLayer_any HV.out.few a m c l _ hm hmc HO.out (HR.out.gr (G0.out.trans g1))).mono ?_; rintro e w2 h2; obtain ⟨rfl, g2⟩ := h2.gr; clear h2)
      | go_in)
    go_ret2
    exact ⟨rfl, (G0.out.trans g1).trans g2⟩
  | false =>
    have HV := Lib.hid hv
    have e1 := Lib.hid (show isLayG n P T m l = false by unfold isLayG; rw [hv]; rfl)
    have e2 := Lib.hid (show errH n P T = 20 by unfold errH; rw [hv]; rfl)
    rw [e1.out, e2.out]
    clear hv
    go_enter Tryd.func19, Tryd.ntmps19
    go_wp2_with (first
      | (go_at_call 66; refine (open_bad adr n cc P T _ hn HV.out HW.out (HH.out.gr G0.out)).mono ?_; rintro e w1 ⟨rfl, g1⟩)
      | go_in)
    go_ret2
    exact ⟨rfl, G0.out.trans g1⟩

theorem refIsLayer_any (adr : Option Addr) (n cc : Nat) (P T : Nat → Int) (a : Option Addr) (m c : Nat) (l : Nat → Int) (w : World) (hn : n ≤ 1000) (hm : m ≤ 100) (hh : RdM w adr n P T) (hr : RdI w a m l) :
    Calls Tryd.prog 20 #[.slice adr n cc, .slice a m c] w (RetBE (isLayG n P T m l) (errH n P T) w) := by
  have HH := Lib.hid hh
  have HR := Lib.hid hr
  clear hh hr
  cases hv : vH n P T with
  | true =>
    have HV := Lib.hid (vH_iff.1 hv)
    have EV := Lib.hid hv
    have e1 := Lib.hid (show isLayG n P T m l = layB n P T m l by unfold isLayG; rw [hv]; rfl)
    have e2 := Lib.hid (show errH n P T = 0 by unfold errH; rw [if_pos hv])
    rw [e1.out, e2.out]
    clear hv
    go_enter Tryd.func20, Tryd.ntmps20
    go_wp2_with (first
      | (go_at_call 27; refine (refValid_any adr n cc P T _ hn HH.out).mono ?_; rintro e w1 h1; obtain ⟨rfl, g1⟩ := h1.gr; clear h1; rw [EV.out])
      | (go_at_call 65; refine (refisLayer_any adr n cc P T HV.out a m c l _ hm (HH.out.gr g1) (HR.out.gr g1)).mono ?_; rintro e w2 h2; obtain ⟨rfl, g2⟩ := h2.gr; clear h2))
    go_ret2
    exact ⟨rfl, g1.trans g2⟩
  | false =>
    have HV := Lib.hid hv
    have e1 := Lib.hid (show isLayG n P T m l = false by unfold isLayG; rw [hv]; rfl)
    have e2 := Lib.hid (show errH n P T = 20 by unfold errH; rw [hv]; rfl)
    rw [e1.out, e2.out]
    clear hv
    go_enter Tryd.func20, Tryd.ntmps20
    go_wp2_with (go_at_call 27; refine (refValid_any adr n cc P T _ hn HH.out).mono ?_; rintro e w1 h1; obtain ⟨rfl, g1⟩ := h1.gr; clear h1; rw [HV.out])
    go_ret2
    exact ⟨rfl, g1⟩

/-- The hits of the sanity check. -/
def sP (i : Nat) : Int := if i = 1 then 5 else 0
def sT (i : Nat) : Int := if i = 1 then 3 else if i = 2 then 10 else 0
theorem sane_wf : WfH 3 sP sT := by
  intro i hi
  match i, hi with
  | 0, _ => exact ⟨rfl, rfl⟩
  | 1, _ => exact ⟨rfl, rfl⟩
  | 2, _ => exact ⟨rfl, rfl⟩
theorem sane_lay : layG 3 sP sT = [0, 1] := by decide +kernel
theorem sane_err : errH 3 sP sT = 0 := by decide +kernel

theorem Sane_any (w : World) (hT : Tab w) : Calls Tryd.prog 16 #[] w (RetB true w) := by
  have g0 := (Gr.refl w).alloc (.cells #[.int .i64 0, .int .i64 0, .int .i64 5, .int .i64 3, .int .i64 0, .int .i64 10] 51)
  have R0 := Lib.hid (show RdM (w.alloc (.cells #[.int .i64 0, .int .i64 0, .int .i64 5, .int .i64 3, .int .i64 0, .int .i64 10] 51)) (some ⟨w.heap.size, 0, none⟩) 3 sP sT from by
    refine .inr ⟨_, 0, rfl, fun i hi => ?_⟩
    have f := fun j v h => ((Gr.refl (w.alloc (.cells #[.int .i64 0, .int .i64 0, .int .i64 5, .int .i64 3, .int .i64 0, .int .i64 10] 51))).fresh' (b := w.heap.size) (j := j) (v := v) rfl h).1
    match i, hi with
    | 0, _ => exact ⟨f 0 _ rfl, f 1 _ rfl⟩
    | 1, _ => exact ⟨f 2 _ rfl, f 3 _ rfl⟩
    | 2, _ => exact ⟨f 4 _ rfl, f 5 _ rfl⟩)
  have L0 := Lib.hid (fun a => Layer_any a 3 3 sP sT)
  rw [sane_lay, sane_err] at L0
  have G0 := Lib.hid g0
  clear g0
  go_enter Tryd.func16, Tryd.ntmps16
  go_wp2_with (first
    | (go_at_call 17; refine (L0.out _ _ (by omega) sane_wf R0.out (hT.gr G0.out)).mono ?_; rintro e w1 ⟨a1, c1, rfl, r1, r2, r3, r4⟩)
    | (go_at_call 21; refine (SameInts_any a1 _ 2 c1 2 2 (nf [0, 1]) (nf [0, 1]) _ (by omega) (by omega) (r3.gr ((Gr.refl _).alloc _)) (.inr ⟨_, 0, rfl, fun i hi => by have f := fun j v h => ((Gr.refl (w1.alloc (.cells #[.int .i64 0, .int .i64 1] 3))).fresh' (b := w1.heap.size) (j := j) (v := v) rfl h).1; match i, hi with | 0, _ => exact f 0 _ rfl | 1, _ => exact f 1 _ rfl⟩)).mono ?_; rintro e w2 ⟨rfl, g2⟩))
  go_ret
  exact ⟨congrArg (fun b => Ending.returned (.bool b)) (eqB_true.2 ⟨rfl, fun _ _ => rfl⟩), ((G0.out.trans r4).alloc _).trans g2⟩

end Go.Proofs.YtjokheeegcilhaaDoor
