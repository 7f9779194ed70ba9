/- Contracts of chapter 2: Valid and before of the reference, has, isHit. -/
import Derived.Test.YtjokheeegcilhaaDoorW2
namespace Go.Proofs.YtjokheeegcilhaaDoor
open Go.RowKit Go.Firn

def RetQ (b : Bool) (w : World) (e : Ending) (w' : World) : Prop := e = .returned (.bool b) ∧ ∃ m, w' = w.drewN m
theorem RetQ.b {b : Bool} {w w' : World} {e : Ending} (h : RetQ b w e w') : RetB b w e w' := by
  obtain ⟨h1, m, rfl⟩ := h
  exact ⟨h1, (Gr.refl w).drewN m⟩
theorem drewN_more {w w' : World} (h : ∃ m, w' = w.drewN m) (k : Nat) : ∃ m, w'.drewN k = w.drewN m := by
  obtain ⟨m, rfl⟩ := h
  exact ⟨m + k, by simp [World.drewN, Nat.add_assoc]⟩
theorem RdM.drewN {w : World} {a : Option Addr} {n : Nat} {f g : Nat → Int} (h : RdM w a n f g) (m : Nat) : RdM (w.drewN m) a n f g := h.gr ((Gr.refl w).drewN m)

theorem before_any (adr : Option Addr) (n c : Nat) (P T : Nat → Int) (w : World) (V : VH n P T) (a b : Nat) (ha : a < n) (hb : b < n) (hr : RdM w adr n P T) :
    Calls Tryd.prog 60 #[.slice adr n c, .int .i64 a, .int .i64 b] w (RetQ (bf P T a b) w) := by
  obtain ⟨p1, p2, p3, p4⟩ := V.ok a ha
  obtain ⟨q1, q2, q3, q4⟩ := V.ok b hb
  clear V
  obtain ⟨bl, o, rfl, hc⟩ := hr.at ha
  obtain ⟨a0, a1⟩ := hc a ha
  obtain ⟨b0, b1⟩ := hc b hb
  clear hc hr
  have e1 : IntKind.i64.wrap (T b - T a) = T b - T a := IntWalk.i64_in _ (by omega)
  have e2 : IntKind.i64.wrap (P b - P a) = P b - P a := IntWalk.i64_in _ (by omega)
  have i1 : (a : Int) < (n : Int) := by omega
  have i2 : (b : Int) < (n : Int) := by omega
  have B := Lib.hid (show bf P T a b = (decide (0 < T b - T a) && decide (P b - P a ≤ T b - T a) && decide (P a - P b ≤ T b - T a)) from rfl)
  generalize bf P T a b = R at B ⊢
  generalize P a = x at *
  generalize P b = y at *
  generalize T a = s at *
  generalize T b = t at *
  go_enter Tryd.func60, Tryd.ntmps60
  go_wp2
  go_quiet (fail)
  go_wp2
  go_quiet (fail)
  go_wp2
  all_goals go_ret
  all_goals refine ⟨congrArg (fun b => Ending.returned (.bool b)) ?_, _, rfl⟩
  all_goals rw [B.out, Bool.eq_iff_iff]
  all_goals simp
  all_goals omega

set_option maxHeartbeats 1000000 in
theorem refValid_any (adr : Option Addr) (n c : Nat) (P T : Nat → Int) (w : World) (hn : n ≤ 1000) (hr : RdM w adr n P T) :
    Calls Tryd.prog 27 #[.slice adr n c] w (RetQ (vH n P T) w) := by
  by_cases n1 : n < 1
  · have e1 : decide (1 ≤ n) = false := by simp; omega
    have E := Lib.hid (show vH n P T = false by unfold vH; rw [e1]; simp)
    clear e1
    go_enter Tryd.func27, Tryd.ntmps27
    go_wp2
    go_ret
    rw [E.out]
    exact ⟨rfl, 0, rfl⟩
  by_cases n2 : 14 < n
  · have e1 : decide (n ≤ 14) = false := by simp; omega
    have E := Lib.hid (show vH n P T = false by unfold vH; rw [e1]; simp)
    clear e1
    go_enter Tryd.func27, Tryd.ntmps27
    go_wp2
    go_ret
    rw [E.out]
    exact ⟨rfl, 0, rfl⟩
  have e1 : decide (n ≤ 14) = true := by simp; omega
  have e2 : decide (1 ≤ n) = true := by simp; omega
  have E0 := Lib.hid (show vH n P T = fineH P T n by unfold vH; rw [e1, e2]; simp)
  have HR := Lib.hid hr
  clear e1 e2 hr
  go_enter Tryd.func27, Tryd.ntmps27
  go_wp2
  go_loopw [3] (fun i wr => ∃ k : Nat, k ≤ n ∧ i = .int .i64 k ∧ Hid (fineH P T k = true) ∧ Hid (∃ m, wr = w.drewN m)) (fun i _ => n - (intOf i).toNat)
  case atStart => exact ⟨0, Nat.zero_le _, rfl, fineH_zero P T, 0, rfl⟩
  case round =>
    obtain ⟨k, hk, rfl, hf, hm⟩ := hrel
    by_cases hlt : k < n
    · have hr1 : RdM wr adr n P T := by obtain ⟨m, rfl⟩ := hm.out; exact RdM.drewN HR.out m
      obtain ⟨b, o, rfl, hc⟩ := hr1.at hlt
      obtain ⟨c0, c1⟩ := hc k hlt
      clear hr1 hc
      by_cases t2 : btw (-1000) (P k) 1000 = true
      · by_cases t3 : btw (-1000) (T k) 1000 = true
        · go_wp2_with (go_at_call 72; refine (within_any _ _ _ _).mono ?_; rintro e w1 ⟨rfl, rfl⟩)
          go_loopw [4] (fun i wx => ∃ j : Nat, j ≤ k ∧ i = .int .i64 j ∧ Hid (wasH P T j k = false) ∧ Hid (∃ m, wx = w.drewN m)) (fun i _ => k - (intOf i).toNat)
          case atStart => exact ⟨0, Nat.zero_le _, rfl, wasH_zero P T k, hm⟩
          case round =>
            obtain ⟨j, hj, rfl, hz, hm1⟩ := hrel
            clear c0 c1
            by_cases hl2 : j < k
            · have hr1 : RdM wr (some ⟨b, o, none⟩) n P T := by obtain ⟨m, rfl⟩ := hm1.out; exact RdM.drewN HR.out m
              obtain ⟨b', o', e1, hc⟩ := hr1.at hlt
              simp at e1
              obtain ⟨rfl, rfl⟩ := e1
              obtain ⟨c0, c1⟩ := hc k hlt
              obtain ⟨d0, d1⟩ := hc j (by omega)
              clear hr1 hc
              have i1 : (j : Int) < (n : Int) := by omega
              have i2 : (k : Int) < (n : Int) := by omega
              by_cases ep : P k = P j
              · by_cases et : T k = T j
                · have E := Lib.hid (show vH n P T = false by
                    rw [E0.out]
                    refine fineH_stop hlt ?_
                    rw [wasH_stop hl2 (by rw [ep, et]; simp)]; simp)
                  rw [ep] at c0
                  rw [et] at c1
                  go_wp2
                  go_quiet (fail)
                  go_wp2
                  go_ret
                  rw [E.out]
                  exact ⟨rfl, drewN_more hm1.out _⟩
                · have F := Lib.hid (show wasH P T (j + 1) k = false by rw [wasH_succ, hz.out]; simp [et])
                  generalize P k = x at c0 ep
                  generalize T k = y at c1 et
                  generalize P j = x' at d0 ep
                  generalize T j = y' at d1 et
                  have s1 : (y == y') = false := by simp [et]
                  have s2 : decide (y = y') = false := by simp [et]
                  go_wp2
                  go_quiet (fail)
                  go_wp2
                  go_roundw
                  case rel => exact ⟨j + 1, by omega, by go_num, F, drewN_more hm1.out _⟩
                  case measure => simp [intOf]; omega
              · have F := Lib.hid (show wasH P T (j + 1) k = false by rw [wasH_succ, hz.out]; simp [ep])
                generalize P k = x at c0 ep
                generalize T k = y at c1
                generalize P j = x' at d0 ep
                generalize T j = y' at d1
                have s1 : (x == x') = false := by simp [ep]
                have s2 : decide (x = x') = false := by simp [ep]
                go_wp2
                go_quiet (fail)
                go_wp2
                go_roundw
                case rel => exact ⟨j + 1, by omega, by go_num, F, drewN_more hm1.out _⟩
                case measure => simp [intOf]; omega
            · obtain rfl : j = k := by omega
              have F := Lib.hid (show fineH P T (j + 1) = true by rw [fineH_succ, hf.out, okH_btw, t2, t3, hz.out]; rfl)
              go_wp2
              go_roundw
              case rel => exact ⟨j + 1, by omega, by go_num, F, hm1⟩
              case measure => simp [intOf]; omega
        · have t3' : btw (-1000) (T k) 1000 = false := by simpa using t3
          clear t3
          have E := Lib.hid (show vH n P T = false by rw [E0.out]; exact fineH_stop hlt (by rw [okH_btw, t2, t3']; rfl))
          go_wp2_with (go_at_call 72; refine (within_any _ _ _ _).mono ?_; rintro e w1 ⟨rfl, rfl⟩)
          go_ret
          rw [E.out]
          exact ⟨rfl, hm.out⟩
      · have t2' : btw (-1000) (P k) 1000 = false := by simpa using t2
        clear t2
        have E := Lib.hid (show vH n P T = false by rw [E0.out]; exact fineH_stop hlt (by rw [okH_btw, t2']; rfl))
        go_wp2_with (go_at_call 72; refine (within_any _ _ _ _).mono ?_; rintro e w1 ⟨rfl, rfl⟩)
        go_ret
        rw [E.out]
        exact ⟨rfl, hm.out⟩
    · obtain rfl : k = n := by omega
      have E := Lib.hid (show vH k P T = true by rw [E0.out, hf.out])
      go_wp2
      go_ret
      rw [E.out]
      exact ⟨rfl, hm.out⟩

end Go.Proofs.YtjokheeegcilhaaDoor
