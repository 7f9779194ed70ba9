/- Contracts of chapter 2: the reference's most and first trigger, and the statement's own count. -/
import Derived.Test.YtjokheeegcilhaaDoorWG
namespace Go.Proofs.YtjokheeegcilhaaDoor
open Go.RowKit Go.Firn

/-- Two numbers and an error. -/
def RetMo (m a E : Int) (w : World) (e : Ending) (w' : World) : Prop := e = .returned (.tuple #[.int .i64 m, .int .i64 a, .int .i64 E]) ∧ Gr w w'
/-- A number and an error. -/
def RetTr (t E : Int) (w : World) (e : Ending) (w' : World) : Prop := e = .returned (.tuple #[.int .i64 t, .int .i64 E]) ∧ Gr w w'
theorem isWithin_any (x : Int) (w : World) : Calls Tryd.prog 90 #[.int .i64 x] w fun e w' => e = .returned (.bool (btw 0 x 2000)) ∧ w = w' := by
  have C := Lib.hid (fun w1 => between_any 0 x 2000 w1)
  go_enter Tryd.func90, Tryd.ntmps90
  go_wp2_with (go_at_call 71; (with_reducible refine (C.out _).mono ?_); rintro e w1 ⟨rfl, rfl⟩)
  go_ret
  exact ⟨rfl, rfl⟩

set_option maxHeartbeats 1000000 in
theorem count_any (adr : Option Addr) (n c : Nat) (P T : Nat → Int) (t wi : Int) (w : World) (hn : n ≤ 14) (ht : -3000 ≤ t ∧ t ≤ 3000) (hwi : 0 ≤ wi ∧ wi ≤ 4000) (hr : RdM w adr n P T) :
    Calls Tryd.prog 53 #[.slice adr n c, .int .i64 t, .int .i64 wi] w fun e w' => e = .returned (.int .i64 (cnT T n wi t : Nat)) ∧ w = w' := by
  obtain ⟨q1, q2⟩ := wr64 (x := t + wi) (by omega)
  go_enter Tryd.func53, Tryd.ntmps53
  go_wp2
  go_loop [7, 8] (fun s i => ∃ k : Nat, k ≤ n ∧ i = .int .i64 k ∧ s = .int .i64 (cnT T k wi t : Nat)) (fun _ i => n - (intOf i).toNat)
  case atStart => exact ⟨0, Nat.zero_le _, rfl, rfl⟩
  case round =>
    obtain ⟨k, hk, rfl, rfl⟩ := hrel
    by_cases hlt : k < n
    · obtain ⟨b, o, rfl, hc⟩ := hr.at hlt
      obtain ⟨_, ck⟩ := hc k hlt
      have k1 : (k : Int) < (n : Int) := by clear q1 q2; omega
      have le := cnT_le T wi t k
      have E := Lib.hid (cnT_succ T k wi t)
      obtain ⟨q3, q4⟩ := wr64 (x := (cnT T k wi t : Nat) + 1) (by clear q1 q2; omega)
      by_cases h1 : t ≤ T k
      · by_cases h2 : T k ≤ t + wi
        · have E1 := Lib.hid (show cnT T (k + 1) wi t = cnT T k wi t + 1 by rw [E.out, if_pos (by unfold inW; simp [h1, h2])])
          clear hc hr le E
          generalize T k = x at *
          generalize cnT T k wi t = s at *
          go_wp2
          go_roundw
          case rel => exact ⟨k + 1, hlt, by go_num, by rw [E1.out]; go_num⟩
          case measure => simp [intOf]; omega
        · have E1 := Lib.hid (show cnT T (k + 1) wi t = cnT T k wi t by rw [E.out, if_neg (by unfold inW; simp [h2])]; rfl)
          clear hc hr le E
          generalize T k = x at *
          generalize cnT T k wi t = s at *
          go_wp2
          go_roundw
          case rel => exact ⟨k + 1, hlt, by go_num, by rw [E1.out]⟩
          case measure => simp [intOf]; omega
      · have E1 := Lib.hid (show cnT T (k + 1) wi t = cnT T k wi t by rw [E.out, if_neg (by unfold inW; simp [h1])]; rfl)
        clear hc hr le E
        generalize T k = x at *
        generalize cnT T k wi t = s at *
        go_wp2
        go_roundw
        case rel => exact ⟨k + 1, hlt, by go_num, by rw [E1.out]⟩
        case measure => simp [intOf]; omega
    · obtain rfl : k = n := by omega
      have k1 : ¬ (k : Int) < (k : Int) := by omega
      go_wp2
      go_ret
      exact ⟨rfl, rfl⟩

/-- The count as the law of triggers takes it. -/
def cI (T : Nat → Int) (n : Nat) (wi t : Int) : Int := ((cnT T n wi t : Nat) : Int)
theorem cI_bd (T : Nat → Int) {n : Nat} (hn : n ≤ 14) (wi t : Int) : 0 ≤ cI T n wi t ∧ cI T n wi t ≤ 14 := by
  have := cnT_le T wi t n
  unfold cI
  omega

set_option maxHeartbeats 1000000 in
theorem refMost_no (adr : Option Addr) (n c : Nat) (P T : Nat → Int) (wi : Int) (w : World) (hn : n ≤ 1000) (hr : RdM w adr n P T) (hv : vH n P T = false) :
    Calls Tryd.prog 50 #[.slice adr n c, .int .i64 wi] w (RetMo 0 0 20 w) := by
  have C := Lib.hid ((refValid_any adr n c P T w hn hr).mono fun _ _ h => h.b)
  rw [hv] at C
  go_enter Tryd.func50, Tryd.ntmps50
  go_wp2_with (go_at_call 27; (with_reducible refine C.out.mono ?_); rintro e w1 ⟨rfl, g1⟩; have G1 := Lib.hid g1; clear g1)
  exact bodyPost_ret (v := .tuple #[.int .i64 0, .int .i64 0, .int .i64 20]) (by simp [results, Tryd.results50, go_sem]) rfl ⟨rfl, G1.out⟩
set_option maxHeartbeats 1000000 in
theorem refMost_bad (adr : Option Addr) (n c : Nat) (P T : Nat → Int) (wi : Int) (w : World) (hn : n ≤ 1000) (hr : RdM w adr n P T) (hv : vH n P T = true) (hb : btw 0 wi 2000 = false) :
    Calls Tryd.prog 50 #[.slice adr n c, .int .i64 wi] w (RetMo 0 0 2 w) := by
  have C := Lib.hid ((refValid_any adr n c P T w hn hr).mono fun _ _ h => h.b)
  rw [hv] at C
  have C2 := Lib.hid (fun w1 => within_any 0 wi 2000 w1)
  rw [hb] at C2
  go_enter Tryd.func50, Tryd.ntmps50
  go_wp2_with (first
    | (go_at_call 27; (with_reducible refine C.out.mono ?_); rintro e w1 ⟨rfl, g1⟩; have G1 := Lib.hid g1; clear g1)
    | (go_at_call 72; (with_reducible refine (C2.out _).mono ?_); rintro e w2 ⟨rfl, rfl⟩))
  exact bodyPost_ret (v := .tuple #[.int .i64 0, .int .i64 0, .int .i64 2]) (by simp [results, Tryd.results50, go_sem]) rfl ⟨rfl, G1.out⟩

set_option maxHeartbeats 4000000 in
set_option maxRecDepth 100000 in
theorem refMost_ok (adr : Option Addr) (n c : Nat) (P T : Nat → Int) (wi : Int) (w : World) (hr : RdM w adr n P T) (V : VH n P T) (hb : 0 ≤ wi ∧ wi ≤ 2000) :
    Calls Tryd.prog 50 #[.slice adr n c, .int .i64 wi] w (RetMo (refM T (cI T n wi) n).1 (refM T (cI T n wi) n).2 0 w) := by
  have hn := V.few
  have C := Lib.hid ((refValid_any adr n c P T w (by omega) hr).mono fun _ _ h => h.b)
  rw [vH_iff.2 V] at C
  have C2 := Lib.hid (fun w1 => within_any 0 wi 2000 w1)
  rw [show btw 0 wi 2000 = true by unfold btw; simp [hb.1, hb.2]] at C2
  have HR := Lib.hid hr
  have VT := Lib.hid V.ok
  have CF := Lib.hid (fun (k : Nat) (hk : k < n) w1 (g : Gr w w1) => from_any adr n c P T (T k) wi w1 hn (by have := V.ok k hk; omega) (by omega) (hr.gr g))
  clear hr V
  go_enter Tryd.func50, Tryd.ntmps50
  go_wp2_with (first
    | (go_at_call 27; (with_reducible refine C.out.mono ?_); rintro e w1 ⟨rfl, g1⟩; have G1 := Lib.hid g1; clear g1)
    | (go_at_call 72; (with_reducible refine (C2.out _).mono ?_); rintro e w2 ⟨rfl, rfl⟩))
  go_loopw [7, 8, 9] (fun m a i wr => ∃ k : Nat, k ≤ n ∧ i = .int .i64 k ∧ m = .int .i64 (refM T (cI T n wi) k).1 ∧ a = .int .i64 (refM T (cI T n wi) k).2 ∧ Hid (Gr w1 wr)) (fun _ _ i _ => n - (intOf i).toNat)
  case atStart => exact ⟨0, Nat.zero_le _, rfl, rfl, rfl, Lib.hid (Gr.refl _)⟩
  case round =>
    obtain ⟨k, hk, rfl, rfl, rfl, HW⟩ := hrel
    by_cases hlt : k < n
    · have GW := Lib.hid (G1.out.trans HW.out)
      obtain ⟨b, o, rfl, hc⟩ := (HR.out.gr GW.out).at hlt
      obtain ⟨_, ck⟩ := hc k hlt
      have k1 : (k : Int) < (n : Int) := by omega
      have CK := Lib.hid (CF.out k hlt _ GW.out)
      have E : refM T (cI T n wi) (k + 1) = if (refM T (cI T n wi) k).1 < cI T n wi (T k) ∨ (cI T n wi (T k) = (refM T (cI T n wi) k).1 ∧ T k < (refM T (cI T n wi) k).2) then (cI T n wi (T k), T k) else refM T (cI T n wi) k := rfl
      have E := Lib.hid E
      clear hc
      have ec : ((cnT T n wi (T k) : Nat) : Int) = cI T n wi (T k) := rfl
      rw [ec] at CK
      clear ec
      generalize hs : refM T (cI T n wi) k = s at *
      obtain ⟨m, a⟩ := s
      dsimp only at E
      generalize cI T n wi (T k) = x at *
      generalize T k = y at *
      clear hs
      by_cases h1 : m < x
      · have E1 := Lib.hid (E.out.trans (if_pos (.inl h1)))
        clear E
        go_wp2_with (go_at_call 92; (with_reducible refine CK.out.mono ?_); rintro e w3 ⟨rfl, rfl⟩)
        go_quiet (fail)
        generalize hwa : World.drewN _ _ = wa
        have Ga := Lib.hid (show Gr w1 wa by rw [← hwa]; exact HW.out.drewN _)
        go_wp2
        go_roundw
        case rel => exact ⟨k + 1, hlt, by go_num, by rw [E1.out], by rw [E1.out], Ga⟩
        case measure => simp [intOf]; omega
      · by_cases h2 : x = m
        · subst h2
          by_cases h3 : y < a
          · have E1 := Lib.hid (E.out.trans (if_pos (.inr ⟨rfl, h3⟩)))
            clear E
            go_wp2_with (go_at_call 92; (with_reducible refine CK.out.mono ?_); rintro e w3 ⟨rfl, rfl⟩)
            go_quiet (fail)
            generalize hwa : World.drewN _ _ = wa
            have Ga := Lib.hid (show Gr w1 wa by rw [← hwa]; exact HW.out.drewN _)
            go_wp2
            go_roundw
            case rel => exact ⟨k + 1, hlt, by go_num, by rw [E1.out], by rw [E1.out], Ga⟩
            case measure => simp [intOf]; omega
          · have E1 := Lib.hid (E.out.trans (if_neg (by omega)))
            clear E
            go_wp2_with (go_at_call 92; (with_reducible refine CK.out.mono ?_); rintro e w3 ⟨rfl, rfl⟩)
            go_roundw
            case rel => exact ⟨k + 1, hlt, by go_num, by rw [E1.out], by rw [E1.out], HW⟩
            case measure => simp [intOf]; omega
        · have E1 := Lib.hid (E.out.trans (if_neg (by omega)))
          have e2 : (x == m) = false := by simpa using h2
          clear E
          go_wp2_with (go_at_call 92; (with_reducible refine CK.out.mono ?_); rintro e w3 ⟨rfl, rfl⟩)
          go_roundw
          case rel => exact ⟨k + 1, hlt, by go_num, by rw [E1.out], by rw [E1.out], HW⟩
          case measure => simp [intOf]; omega
    · obtain rfl : k = n := by omega
      have k1 : ¬ (k : Int) < (k : Int) := by omega
      go_wp2
      exact bodyPost_ret (v := .tuple #[.int .i64 _, .int .i64 _, .int .i64 0]) (by simp [results, Tryd.results50, go_sem]) rfl ⟨rfl, G1.out.trans HW.out⟩

end Go.Proofs.YtjokheeegcilhaaDoor
