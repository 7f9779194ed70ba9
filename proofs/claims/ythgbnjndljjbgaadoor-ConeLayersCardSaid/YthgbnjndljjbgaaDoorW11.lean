/- Contracts of chapter 2: isLayer of the reference. -/
import Derived.Test.YthgbnjndljjbgaaDoorW10
namespace Go.Proofs.YthgbnjndljjbgaaDoor
open Go.RowKit Go.Firn

theorem rdM_drewN {w : World} {a : Option Addr} {n : Nat} {f g : Nat → Int} (h : RdM w a n f g) {w' : World} (k : ∃ m, w' = w.drewN m) : RdM w' a n f g := by
  obtain ⟨m, rfl⟩ := k
  exact RdM.drewN h m

set_option maxHeartbeats 1000000 in
set_option maxRecDepth 20000 in
theorem refisLayer_any (adr : Option Addr) (n cc : Nat) (P T : Nat → Int) (V : VH n P T) (a : Option Addr) (m c : Nat) (l : Nat → Int) (w : World) (hm : m ≤ 100) (hh : RdM w adr n P T) (hr : RdI w a m l) :
    Calls Tryd.prog 65 #[.slice adr n cc, .slice a m c] w (RetQ (layB n P T m l) w) := by
  have hn := V.few
  have HV := Lib.hid V
  have HH := Lib.hid hh
  have HR := Lib.hid hr
  clear V hh hr
  go_enter Tryd.func65, Tryd.ntmps65
  go_wp2
  go_loopw [5] (fun s wr => ∃ k : Nat, k ≤ m ∧ k ≤ 51 ∧ s = .int .i64 k ∧ Hid (layK n P T l k = true) ∧ Hid (∃ d, wr = w.drewN d)) (fun s _ => m - (intOf s).toNat)
  case atStart => exact ⟨0, Nat.zero_le _, by omega, rfl, layK_zero n P T l, 0, rfl⟩
  case round =>
    obtain ⟨k, hk, hk51, rfl, hK, hd⟩ := hrel
    by_cases hlt : k < m
    · by_cases h51 : k ≤ 50
      · obtain ⟨b, o, rfl, hc⟩ := (rdI_drewN HR.out hd.out).at hlt
        have ck := hc k hlt
        have i1 : (k : Int) < (m : Int) := by omega
        have i5 : (k : Int) ≤ 50 := by omega
        by_cases h1 : inH n (l k) = true
        · have H1 := Lib.hid (show ∀ w : World, Calls Tryd.prog 69 #[.slice adr n cc, .int .i64 (l k)] w (fun e w' => e = .returned (.bool true) ∧ w' = w) from fun w => by have := refisHit_any adr n cc hn (l k) w; rw [h1] at this; exact this.mono fun _ _ h => ⟨h.1, h.2.symm⟩)
          obtain ⟨I, hI, eI⟩ := inH_nat h1
          by_cases h2 : 0 < k ∧ l k ≤ l (k - 1)
          · have E := Lib.hid (show layB n P T m l = false from layB_stop hlt (by rw [layAt_eq]; simp [h2]))
            obtain ⟨h3, h4⟩ := h2
            have cp := hc (k - 1) (by omega)
            have e1 : (k : Int) - 1 = ((k - 1 : Nat) : Int) := by omega
            have e2 : IntKind.i64.wrap ((k : Int) - 1) = ((k - 1 : Nat) : Int) := by rw [IntWalk.i64_in _ (by omega)]; omega
            have i2 : ((k - 1 : Nat) : Int) < (m : Int) := by omega
            have d1 : decide ((0 : Int) < (k : Int)) = true := by simp; omega
            have d2 : decide (l k ≤ l (k - 1)) = true := by simp; exact h4
            clear eI hI hc
            go_wp2_with fail
            go_quiet ((go_at_call 69; with_reducible exact Calls.quiet_of_same (H1.out _)))
            go_wp2_with fail
            go_ret
            rw [E.out]
            exact ⟨rfl, drewN_more hd.out _⟩
          · have N1 := Lib.hid (show (decide (0 < k) && decide (l k ≤ l (k - 1))) = false by
              cases h : (decide (0 < k) && decide (l k ≤ l (k - 1)))
              · rfl
              · simp only [Bool.and_eq_true, decide_eq_true_eq] at h; exact absurd h h2)
            have A1 := Lib.hid (show layAt n P T l k = layJ P T l k k by rw [layAt_eq, h1, N1.out]; rfl)
            rw [eI] at ck H1 h1
            by_cases k0 : 0 < k
            · have h3 : ¬ (I : Int) ≤ l (k - 1) := by rw [← eI]; exact fun h => h2 ⟨k0, h⟩
              have cp := hc (k - 1) (by omega)
              have e1 : (k : Int) - 1 = ((k - 1 : Nat) : Int) := by omega
              have e2 : IntKind.i64.wrap ((k : Int) - 1) = ((k - 1 : Nat) : Int) := by rw [IntWalk.i64_in _ (by omega)]; omega
              have i2 : ((k - 1 : Nat) : Int) < (m : Int) := by omega
              have d1 : decide ((0 : Int) < (k : Int)) = true := by simp; omega
              have d2 : decide ((I : Int) ≤ l (k - 1)) = false := by simpa using h3
              clear h2 hc
              go_wp2_with fail
              go_quiet ((go_at_call 69; with_reducible exact Calls.quiet_of_same (H1.out _)))
              go_wp2_with fail
              clear cp e1 e2 i2 h3 d1 d2
              go_loopw [6] (fun s wx => ∃ j : Nat, j ≤ k ∧ s = .int .i64 j ∧ Hid (layJ P T l k j = true) ∧ Hid (∃ d, wx = w.drewN d)) (fun s _ => k - (intOf s).toNat)
              case atStart => exact ⟨0, Nat.zero_le _, rfl, layJ_zero P T l k, drewN_more hd.out _⟩
              case round =>
                clear ck
                obtain ⟨j, hj, rfl, hJ, hd2⟩ := hrel
                by_cases hl2 : j < k
                · obtain ⟨J, hJn, eJ⟩ := layK_at hK.out hl2
                  obtain ⟨b', o', e9, hc⟩ := (rdI_drewN HR.out hd2.out).at hlt
                  simp at e9
                  obtain ⟨rfl, rfl⟩ := e9
                  have ck := hc k hlt
                  rw [eI] at ck
                  have cj := hc j (by omega)
                  rw [eJ] at cj
                  have j1 : (j : Int) < (k : Int) := by omega
                  have j2 : (j : Int) < (m : Int) := by omega
                  have CM := Lib.hid (show cmpd P T (l k).toNat (l j).toNat = (bf P T I J || bf P T J I) by rw [eI, eJ]; rfl)
                  clear hc
                  have S1 := Lib.hid (show ∀ d, Calls Tryd.prog 60 #[.slice adr n cc, .int .i64 I, .int .i64 J] (wr.drewN d) (RetQ (bf P T I J) (wr.drewN d)) from fun d => before_any adr n cc P T _ HV.out I J hI hJn (RdM.drewN (rdM_drewN HH.out hd2.out) d))
                  have S2 := Lib.hid (show ∀ d, Calls Tryd.prog 60 #[.slice adr n cc, .int .i64 J, .int .i64 I] (wr.drewN d) (RetQ (bf P T J I) (wr.drewN d)) from fun d => before_any adr n cc P T _ HV.out J I hJn hI (RdM.drewN (rdM_drewN HH.out hd2.out) d))
                  unfold RetQ at S1 S2
                  cases hb1 : bf P T I J with
                  | true =>
                    have E := Lib.hid (show layB n P T m l = false from layB_stop hlt (layAt_know hl2 (by rw [CM.out, hb1]; rfl)))
                    rw [hb1] at S1
                    clear hb1
                    go_wp2_with fail
                    go_quiet ((first | (go_at_call 60; with_reducible exact Calls.quiet_of (S1.out _)) | (go_at_call 60; with_reducible exact Calls.quiet_of (S2.out _))))
                    go_wp2_with fail
                    go_ret
                    rw [E.out]
                    exact ⟨rfl, drewN_more hd2.out _⟩
                  | false =>
                    rw [hb1] at S1
                    cases hb2 : bf P T J I with
                    | true =>
                      have E := Lib.hid (show layB n P T m l = false from layB_stop hlt (layAt_know hl2 (by rw [CM.out, hb1, hb2]; rfl)))
                      rw [hb2] at S2
                      clear hb1 hb2
                      go_wp2_with fail
                      go_quiet ((first | (go_at_call 60; with_reducible exact Calls.quiet_of (S1.out _)) | (go_at_call 60; with_reducible exact Calls.quiet_of (S2.out _))))
                      go_wp2_with fail
                      go_ret
                      rw [E.out]
                      exact ⟨rfl, drewN_more hd2.out _⟩
                    | false =>
                      have F := Lib.hid (show layJ P T l k (j + 1) = true by rw [layJ_succ, hJ.out, CM.out, hb1, hb2]; rfl)
                      rw [hb2] at S2
                      clear hb1 hb2
                      go_wp2_with fail
                      go_quiet ((first | (go_at_call 60; with_reducible exact Calls.quiet_of (S1.out _)) | (go_at_call 60; with_reducible exact Calls.quiet_of (S2.out _))))
                      go_wp2_with fail
                      go_roundw
                      case rel => exact ⟨j + 1, hl2, by go_num, F, drewN_more hd2.out _⟩
                      case measure => simp [intOf]; omega
                · obtain rfl : j = k := by omega
                  have F := Lib.hid (show layK n P T l (j + 1) = true by rw [layK_succ, hK.out, A1.out, hJ.out]; rfl)
                  go_wp2_with fail
                  go_roundw
                  case rel => exact ⟨j + 1, hlt, by omega, by go_num, F, hd2⟩
                  case measure => simp [intOf]; omega
            · have k1 : ¬ (0 : Int) < (k : Int) := by omega
              have d1 : decide ((0 : Int) < (k : Int)) = false := by simp; omega
              clear h2 hc
              go_wp2_with fail
              go_quiet ((go_at_call 69; with_reducible exact Calls.quiet_of_same (H1.out _)))
              go_wp2_with fail
              go_loopw [6] (fun s wx => ∃ j : Nat, j ≤ k ∧ s = .int .i64 j ∧ Hid (layJ P T l k j = true) ∧ Hid (∃ d, wx = w.drewN d)) (fun s _ => k - (intOf s).toNat)
              case atStart => exact ⟨0, Nat.zero_le _, rfl, layJ_zero P T l k, drewN_more hd.out _⟩
              case round =>
                clear ck
                obtain ⟨j, hj, rfl, hJ, hd2⟩ := hrel
                by_cases hl2 : j < k
                · omega
                · obtain rfl : j = k := by omega
                  have F := Lib.hid (show layK n P T l (j + 1) = true by rw [layK_succ, hK.out, A1.out, hJ.out]; rfl)
                  go_wp2_with fail
                  go_roundw
                  case rel => exact ⟨j + 1, hlt, by omega, by go_num, F, hd2⟩
                  case measure => simp [intOf]; omega
        · have h1' : inH n (l k) = false := by simpa using h1
          have E := Lib.hid (show layB n P T m l = false from layB_stop hlt (by rw [layAt_eq, h1']; rfl))
          have H1 := Lib.hid (show ∀ w : World, Calls Tryd.prog 69 #[.slice adr n cc, .int .i64 (l k)] w (fun e w' => e = .returned (.bool false) ∧ w' = w) from fun w => by have := refisHit_any adr n cc hn (l k) w; rw [h1'] at this; exact this.mono fun _ _ h => ⟨h.1, h.2.symm⟩)
          clear h1 hc
          go_wp2_with fail
          go_quiet ((go_at_call 69; with_reducible exact Calls.quiet_of_same (H1.out _)))
          go_wp2_with fail
          go_ret
          rw [E.out]
          exact ⟨rfl, drewN_more hd.out _⟩
      · have E := Lib.hid (show layB n P T m l = false by
          have : decide (m ≤ 50) = false := by simp; omega
          unfold layB; rw [this]; simp)
        have i1 : (k : Int) < (m : Int) := by omega
        have i5 : ¬ (k : Int) ≤ 50 := by omega
        go_wp2_with fail
        go_ret
        rw [E.out]
        refine ⟨?_, hd.out⟩
        have : decide ((m : Int) ≤ 50) = false := by simp; omega
        rw [← this]
        rfl
    · obtain rfl : k = m := by omega
      have E := Lib.hid (show layB n P T k l = (decide ((0 : Int) < (k : Int)) && decide ((k : Int) ≤ 50)) by
        unfold layB
        rw [hK.out]
        simp only [Bool.true_and]
        congr 1 <;> (congr 1; apply propext; omega))
      by_cases p0 : 0 < k
      · have p1 : (0 : Int) < (k : Int) := by omega
        have E2 := Lib.hid (show layB n P T k l = decide ((k : Int) ≤ 50) by rw [E.out, decide_eq_true p1]; rfl)
        clear E
        go_wp2_with fail
        all_goals go_ret
        all_goals rw [E2.out]
        all_goals exact ⟨rfl, hd.out⟩
      · have p1 : ¬ (0 : Int) < (k : Int) := by omega
        have E2 := Lib.hid (show layB n P T k l = false by rw [E.out, decide_eq_false p1]; rfl)
        clear E
        go_wp2_with fail
        all_goals go_ret
        all_goals rw [E2.out]
        all_goals exact ⟨rfl, hd.out⟩

end Go.Proofs.YthgbnjndljjbgaaDoor
