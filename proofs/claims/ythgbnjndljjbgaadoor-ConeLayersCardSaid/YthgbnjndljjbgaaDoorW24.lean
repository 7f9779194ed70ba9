/- Contracts of chapter 2: tables that are the same, and wide ones. -/
import Derived.Test.YthgbnjndljjbgaaDoorW23
import Derived.Test.YthgbnjndljjbgaaDoorP10
namespace Go.Proofs.YthgbnjndljjbgaaDoor
open Go.RowKit Go.Firn

theorem rdT_drewN {w : World} {a : Option Addr} {n : Nat} {r : Nat → Nat × (Nat → Int)} (h : RdT w a n r) {w' : World} (g : ∃ m, w' = w.drewN m) : RdT w' a n r := by
  obtain ⟨m, rfl⟩ := g
  exact h.gr ((Gr.refl w).drewN m)

theorem SameTables_q (a a' : Option Addr) (n c c' : Nat) (r : Nat → Nat × (Nat → Int)) (w : World) (hn : n ≤ 9223372036854775807) (hr : RdT w a n r) (hr' : RdT w a' n r) :
    Calls Tryd.prog 41 #[.slice a n c, .slice a' n c'] w (RetQ true w) := by
  have H1 := Lib.hid hr
  have H2 := Lib.hid hr'
  clear hr hr'
  go_enter Tryd.func41, Tryd.ntmps41
  go_wp2
  go_loopw [5] (fun i wr => ∃ k : Nat, k ≤ n ∧ i = .int .i64 k ∧ Hid (∃ m, wr = w.drewN m)) (fun i _ => n - (intOf i).toNat)
  case atStart => exact ⟨0, by omega, rfl, 0, rfl⟩
  case round =>
    obtain ⟨k, hk, rfl, hm⟩ := hrel
    by_cases hlt : k < n
    · obtain ⟨b, o, ai, ci, rfl, hc, l1, l2, l3⟩ := (rdT_drewN H1.out hm.out).at hlt
      obtain ⟨b', o', ai', ci', rfl, hc', m1, m2, m3⟩ := (rdT_drewN H2.out hm.out).at hlt
      unfold maxLen at l2 m2
      have S := Lib.hid (show ∀ w', Gr wr w' → Calls Tryd.prog 21 #[.slice ai (r k).1 ci, .slice ai' (r k).1 ci'] w' (RetQ true w') from fun w' g => by
        have := SameInts_q ai ai' (r k).1 ci (r k).1 ci' (r k).2 (r k).2 w' (by omega) (by omega) (l3.gr g) (m3.gr g)
        rwa [show eqB (r k).1 (r k).1 (r k).2 (r k).2 = true from eqB_true.2 ⟨rfl, fun _ _ => rfl⟩] at this)
      have i4 : (k : Int) < n := by omega
      clear l1 l2 l3 m1 m2 m3
      go_wp2_with fail
      go_quiet ((go_at_call 21; with_reducible exact Calls.quiet_of (S.out _ ((Gr.refl wr).drewN _))))
      go_wp2_with fail
      go_roundw
      case rel => exact ⟨k + 1, by omega, by go_num, drewN_more hm.out _⟩
      case measure => simp [intOf]; omega
    · obtain rfl : k = n := by omega
      go_wp2_with fail
      go_ret
      exact ⟨rfl, hm.out⟩

theorem Wide_q (a : Option Addr) (n c : Nat) (r : Nat → Nat × (Nat → Int)) (w : World) (hn : n ≤ 9223372036854775807) (hr : RdT w a n r) :
    Calls Tryd.prog 36 #[.slice a n c] w (RetQ (wideB n r) w) := by
  have H1 := Lib.hid hr
  clear hr
  go_enter Tryd.func36, Tryd.ntmps36
  go_wp2
  go_loopw [3] (fun i wr => ∃ k : Nat, k ≤ n ∧ i = .int .i64 k ∧ Hid (∀ i, i < k → (r i).1 ≤ 60) ∧ Hid (∃ m, wr = w.drewN m)) (fun i _ => n - (intOf i).toNat)
  case atStart => exact ⟨0, by omega, rfl, fun i hi => by omega, 0, rfl⟩
  case round =>
    obtain ⟨k, hk, rfl, hK, hm⟩ := hrel
    by_cases hlt : k < n
    · obtain ⟨b, o, ai, ci, rfl, hc, l1, l2, l3⟩ := (rdT_drewN H1.out hm.out).at hlt
      unfold maxLen at l2
      have i4 : (k : Int) < n := by omega
      by_cases h6 : (r k).1 ≤ 60
      · have K1 := Lib.hid (show ∀ i, i < k + 1 → (r i).1 ≤ 60 from fun i hi => by
          by_cases e : i = k
          · subst e; exact h6
          · exact hK.out i (by omega))
        have h7 : ¬ (60 : Int) < ((r k).1 : Int) := by omega
        clear l3 h6
        generalize (r k).1 = q at *
        go_wp2_with fail
        go_roundw
        case rel => exact ⟨k + 1, by omega, by go_num, K1, hm⟩
        case measure => simp [intOf]; omega
      · have E := Lib.hid (show wideB n r = true from wideB_of hlt (by omega))
        have h7 : (60 : Int) < ((r k).1 : Int) := by omega
        clear l3 h6
        generalize (r k).1 = q at *
        go_wp2_with fail
        go_ret
        rw [E.out]
        exact ⟨rfl, hm.out⟩
    · obtain rfl : k = n := by omega
      have E := Lib.hid (wideB_end hK.out)
      go_wp2_with fail
      go_ret
      rw [E.out, ← show decide ((60 : Int) < (k : Int)) = decide (60 < k) from by congr 1; apply propext; omega]
      exact ⟨rfl, hm.out⟩

end Go.Proofs.YthgbnjndljjbgaaDoor
