/- Contracts of chapter 1: Apart and Same, of the program and of the reference: the same answers. -/
import Derived.Test.YtdlbgelidcfmiaaP12
namespace Go.Proofs.Ytdlbgelidcfmiaa
open Go.RowKit Go.Firn

set_option maxRecDepth 100000 in
theorem refSame_no1 (a a' : Option Addr) (n c n' c' : Nat) (L T : Nat → Int) (w : World) (hn : n ≤ 9223372036854775807) (hr : RdM w a n L T) (hv : vK n L T = false) :
    Calls Try.prog 53 #[.slice a n c, .slice a' n' c'] w (RetBE false 11 w) := by
  have V1 := Lib.hid (fun w1 h => show Calls Try.prog 34 #[.slice a n c] w1 (RetB false w1) by have := refValidClock_any a n c L T w1 hn h; rwa [hv] at this)
  clear hv
  go_enter Try.func53, Try.ntmps53
  go_wp2_with fail
  refine (V1.out _ hr).mono ?_
  rintro e w1 ⟨rfl, g1⟩
  go_wp2_with fail
  go_ret2
  exact ⟨rfl, g1⟩
set_option maxRecDepth 100000 in
theorem refSame_no2 (a a' : Option Addr) (n c n' c' : Nat) (L T L' T' : Nat → Int) (w : World) (hn : n ≤ 9223372036854775807) (hn' : n' ≤ 9223372036854775807) (hr : RdM w a n L T) (hr' : RdM w a' n' L' T') (hv : vK n L T = true) (hv' : vK n' L' T' = false) :
    Calls Try.prog 53 #[.slice a n c, .slice a' n' c'] w (RetBE false 11 w) := by
  have V1 := Lib.hid (fun w1 h => show Calls Try.prog 34 #[.slice a n c] w1 (RetB true w1) by have := refValidClock_any a n c L T w1 hn h; rwa [hv] at this)
  have V2 := Lib.hid (fun w1 h => show Calls Try.prog 34 #[.slice a' n' c'] w1 (RetB false w1) by have := refValidClock_any a' n' c' L' T' w1 hn' h; rwa [hv'] at this)
  clear hv hv'
  go_enter Try.func53, Try.ntmps53
  go_wp2_with fail
  refine (V1.out _ hr).mono ?_
  rintro e w1 ⟨rfl, g1⟩
  go_wp2_with fail
  refine (V2.out _ (hr'.gr g1)).mono ?_
  rintro e w2 ⟨rfl, g2⟩
  go_wp2_with fail
  go_ret2
  exact ⟨rfl, g1.trans g2⟩

/-- Apart of both. -/
theorem apart_both (a a' : Option Addr) (n c n' c' : Nat) (L T L' T' : Nat → Int) (F G : Int) (hn : n ≤ 9223372036854775807) (hn' : n' ≤ 9223372036854775807) :
    ∃ x p q err : Int, (∀ w, RdM w a n L T → RdM w a' n' L' T' → Calls Try.prog 50 #[.slice a n c, .slice a' n' c', .int .i64 F, .int .i64 G] w (RetIRE x p q err w)) ∧
      (∀ w, RdM w a n L T → RdM w a' n' L' T' → Calls Try.prog 51 #[.slice a n c, .slice a' n' c', .int .i64 F, .int .i64 G] w (RetIRE x p q err w)) := by
  cases hv : vK n L T with
  | false => exact ⟨0, 0, 0, 11, fun w h h' => Apart_no1 a a' n c n' c' L T L' T' F G w hn hn' h h' hv, fun w h h' => refApart_no1 a a' n c n' c' L T L' T' F G w hn hn' h h' hv⟩
  | true =>
    cases hv' : vK n' L' T' with
    | false => exact ⟨0, 0, 0, 11, fun w h h' => Apart_no2 a a' n c n' c' L T L' T' F G w hn hn' h h' hv hv', fun w h h' => refApart_no2 a a' n c n' c' L T L' T' F G w hn hn' h h' hv hv'⟩
    | true =>
      cases hF : btw 0 F 100000 with
      | false => exact ⟨0, 0, 0, 2, fun w h h' => Apart_no3 a a' n c n' c' L T L' T' F G w hn hn' h h' hv hv' hF, fun w h h' => refApart_no3 a a' n c n' c' L T L' T' F G w hn hn' h h' hv hv' hF⟩
      | true =>
        cases hG : btw 0 G 100000 with
        | false => exact ⟨0, 0, 0, 2, fun w h h' => Apart_no4 a a' n c n' c' L T L' T' F G w hn hn' h h' hv hv' hF hG, fun w h h' => refApart_no4 a a' n c n' c' L T L' T' F G w hn hn' h h' hv hv' hF hG⟩
        | true =>
          by_cases hFG : F ≤ G
          · obtain ⟨m, hm⟩ := IsMx.exists (p := apN n L T n' L' T') (fun y => apD_pos hv hv' y) F (G - F).toNat
            rw [show F + ((G - F).toNat : Int) + 1 = G + 1 by omega] at hm
            refine ⟨m, apN n L T n' L' T' m, apD n L T n' L' T' m, 0, fun w h h' => ?_, fun w h h' => ?_⟩
            · refine (Apart_ok a a' n c n' c' L T L' T' F G w h h' hv hv' (btw_true.1 hF) (btw_true.1 hG) hFG).mono ?_
              rintro e w' ⟨k, hk, hret⟩
              obtain rfl := place_eq hv hv' hm hk
              exact hret
            · refine (refApart_ok a a' n c n' c' L T L' T' F G w hn hn' h h' hv hv' (btw_true.1 hF) (btw_true.1 hG) hFG).mono ?_
              rintro e w' ⟨k, hk, hret⟩
              obtain rfl := IsMx.unique hk hm
              exact hret
          · exact ⟨0, 0, 0, 2, fun w h h' => Apart_no5 a a' n c n' c' L T L' T' F G w hn hn' h h' hv hv' hF hG hFG, fun w h h' => refApart_no5 a a' n c n' c' L T L' T' F G w hn hn' h h' hv hv' hF hG hFG⟩

/-- Same of both. -/
theorem same_both (a a' : Option Addr) (n c n' c' : Nat) (L T L' T' : Nat → Int) (hn : n ≤ 9223372036854775807) (hn' : n' ≤ 9223372036854775807) :
    ∃ (b : Bool) (err : Int), (∀ w, RdM w a n L T → RdM w a' n' L' T' → Calls Try.prog 52 #[.slice a n c, .slice a' n' c'] w (RetBE b err w)) ∧
      (∀ w, RdM w a n L T → RdM w a' n' L' T' → Calls Try.prog 53 #[.slice a n c, .slice a' n' c'] w (RetBE b err w)) := by
  cases hv : vK n L T with
  | false => exact ⟨false, 11, fun w h h' => Same_no a a' n c n' c' L T L' T' w hn hn' h h' (by rw [hv]; rfl), fun w h _ => refSame_no1 a a' n c n' c' L T w hn h hv⟩
  | true =>
    cases hv' : vK n' L' T' with
    | false => exact ⟨false, 11, fun w h h' => Same_no a a' n c n' c' L T L' T' w hn hn' h h' (by rw [hv, hv']; rfl), fun w h h' => refSame_no2 a a' n c n' c' L T L' T' w hn hn' h h' hv hv'⟩
    | true =>
      have hm : ∃ b : Bool, b = true ↔ ∀ i, i < n + n' + 2 → AN n L T (smX n L L' i) = AN n' L' T' (smX n L L' i) ∧ AD n L T (smX n L L' i) = AD n' L' T' (smX n L L' i) := by
        by_cases h : ∀ i, i < n + n' + 2 → AN n L T (smX n L L' i) = AN n' L' T' (smX n L L' i) ∧ AD n L T (smX n L L' i) = AD n' L' T' (smX n L L' i)
        · exact ⟨true, fun _ => h, fun _ => rfl⟩
        · exact ⟨false, fun h => (by cases h), fun k => absurd k h⟩
      obtain ⟨b, hb⟩ := hm
      refine ⟨b, 0, fun w h h' => ?_, fun w h h' => ?_⟩
      · refine (Same_ok a a' n c n' c' L T L' T' w h h' hv hv').mono ?_
        rintro e w' ⟨k, hk, hret⟩
        have e1 : decide (apN n L T n' L' T' k = 0) = b := by
          rw [Bool.eq_iff_iff, decide_eq_true_eq, hb]
          exact same_iff hv hv' hk
        rwa [e1] at hret
      · refine (refSame_ok a a' n c n' c' L T L' T' w h h' hv hv').mono ?_
        rintro e w' ⟨k, hk, hret⟩
        have e1 : k = b := by rw [Bool.eq_iff_iff, hk, hb]
        rwa [e1] at hret

end Go.Proofs.Ytdlbgelidcfmiaa
