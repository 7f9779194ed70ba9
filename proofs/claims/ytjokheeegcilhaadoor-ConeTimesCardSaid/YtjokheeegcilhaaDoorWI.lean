/- Contracts of chapter 2: the reference's first trigger. -/
import Derived.Test.YtjokheeegcilhaaDoorWH
namespace Go.Proofs.YtjokheeegcilhaaDoor
open Go.RowKit Go.Firn

set_option maxHeartbeats 1000000 in
theorem refTrigger_no (adr : Option Addr) (n c : Nat) (P T : Nat → Int) (N wi : Int) (w : World) (hn : n ≤ 1000) (hr : RdM w adr n P T) (hv : vH n P T = false) :
    Calls Tryd.prog 52 #[.slice adr n c, .int .i64 N, .int .i64 wi] w (RetTr 0 20 w) := by
  have C := Lib.hid ((refValid_any adr n c P T w hn hr).mono fun _ _ h => h.b)
  rw [hv] at C
  go_enter Tryd.func52, Tryd.ntmps52
  go_wp2_with (go_at_call 27; (with_reducible refine C.out.mono ?_); rintro e w1 ⟨rfl, g1⟩; have G1 := Lib.hid g1; clear g1)
  exact bodyPost_ret (v := .tuple #[.int .i64 0, .int .i64 20]) (by simp [results, Tryd.results52, go_sem]) rfl ⟨rfl, G1.out⟩
set_option maxHeartbeats 1000000 in
theorem refTrigger_bad (adr : Option Addr) (n c : Nat) (P T : Nat → Int) (N wi : Int) (w : World) (hn : n ≤ 1000) (hr : RdM w adr n P T) (hv : vH n P T = true) (hb : (btw 1 N 14 && btw 0 wi 2000) = false) :
    Calls Tryd.prog 52 #[.slice adr n c, .int .i64 N, .int .i64 wi] w (RetTr 0 2 w) := by
  have C := Lib.hid ((refValid_any adr n c P T w hn hr).mono fun _ _ h => h.b)
  rw [hv] at C
  have C2 := Lib.hid (fun w1 => within_any 0 wi 2000 w1)
  have C3 := Lib.hid (fun w1 => within_any 1 N 14 w1)
  clear hr hv
  cases h1 : btw 1 N 14 with
  | false =>
    rw [h1] at C3
    clear h1 hb
    go_enter Tryd.func52, Tryd.ntmps52
    go_wp2_with (first
      | (go_at_call 27; (with_reducible refine C.out.mono ?_); rintro e w1 ⟨rfl, g1⟩; have G1 := Lib.hid g1; clear g1)
      | (go_at_call 72; (with_reducible refine (C3.out _).mono ?_); rintro e w2 ⟨rfl, rfl⟩)
      | (go_at_call 72; (with_reducible refine (C2.out _).mono ?_); rintro e w2 ⟨rfl, rfl⟩))
    exact bodyPost_ret (v := .tuple #[.int .i64 0, .int .i64 2]) (by simp [results, Tryd.results52, go_sem]) rfl ⟨rfl, G1.out⟩
  | true =>
    have h2 : btw 0 wi 2000 = false := by rw [h1] at hb; simpa using hb
    rw [h1] at C3
    rw [h2] at C2
    clear h1 hb h2
    go_enter Tryd.func52, Tryd.ntmps52
    go_wp2_with (first
      | (go_at_call 27; (with_reducible refine C.out.mono ?_); rintro e w1 ⟨rfl, g1⟩; have G1 := Lib.hid g1; clear g1)
      | (go_at_call 72; (with_reducible refine (C3.out _).mono ?_); rintro e w2 ⟨rfl, rfl⟩)
      | (go_at_call 72; (with_reducible refine (C2.out _).mono ?_); rintro e w2 ⟨rfl, rfl⟩))
    exact bodyPost_ret (v := .tuple #[.int .i64 0, .int .i64 2]) (by simp [results, Tryd.results52, go_sem]) rfl ⟨rfl, G1.out⟩

set_option maxHeartbeats 4000000 in
set_option maxRecDepth 100000 in
theorem refTrigger_ok (adr : Option Addr) (n c : Nat) (P T : Nat → Int) (N wi : Int) (w : World) (hr : RdM w adr n P T) (V : VH n P T) (hb : 0 ≤ wi ∧ wi ≤ 2000) (hN : 1 ≤ N ∧ N ≤ 14) :
    Calls Tryd.prog 52 #[.slice adr n c, .int .i64 N, .int .i64 wi] w fun e w' => ∃ t E, IsT T (cI T n wi) n N t E ∧ RetTr t E w e w' := by
  have hn := V.few
  have C := Lib.hid ((refValid_any adr n c P T w (by omega) hr).mono fun _ _ h => h.b)
  rw [vH_iff.2 V] at C
  have C2 := Lib.hid (fun w1 => within_any 0 wi 2000 w1)
  rw [show btw 0 wi 2000 = true by unfold btw; simp [hb.1, hb.2]] at C2
  have C3 := Lib.hid (fun w1 => within_any 1 N 14 w1)
  rw [show btw 1 N 14 = true by unfold btw; simp [hN.1, hN.2]] at C3
  have HR := Lib.hid hr
  have VT := Lib.hid V.ok
  have CF := Lib.hid (fun (t : Int) (ht : -3000 ≤ t ∧ t ≤ 3000) w1 (g : Gr w w1) => from_any adr n c P T t wi w1 hn ht (by omega) (hr.gr g))
  clear hr V
  go_enter Tryd.func52, Tryd.ntmps52
  go_wp2_with (first
    | (go_at_call 27; (with_reducible refine C.out.mono ?_); rintro e w1 ⟨rfl, g1⟩; have G1 := Lib.hid g1; clear g1)
    | (go_at_call 72; (with_reducible refine (C3.out _).mono ?_); rintro e w2 ⟨rfl, rfl⟩)
    | (go_at_call 72; (with_reducible refine (C2.out _).mono ?_); rintro e w2 ⟨rfl, rfl⟩))
  go_loopw [8] (fun i wr => ∃ d : Nat, d ≤ 2001 ∧ i = .int .i64 (-1000 + (d : Int)) ∧ Hid (∀ i, i < n → N ≤ cI T n wi (T i) → -1000 + (d : Int) ≤ T i) ∧ Hid (Gr w1 wr)) (fun i _ => (1001 - intOf i).toNat)
  case atStart => exact ⟨0, by omega, rfl, Lib.hid (fun i hi _ => by have := VT.out i hi; omega), Lib.hid (Gr.refl _)⟩
  case round =>
    obtain ⟨d, hd, rfl, HB, HW⟩ := hrel
    obtain ⟨t, ht⟩ : ∃ t : Int, -1000 + (d : Int) = t := ⟨_, rfl⟩
    rw [ht]
    by_cases hlt : t ≤ 1000
    · have CT := Lib.hid (CF.out t (by omega))
      have q1 : IntKind.i64.wrap (t + 1) = t + 1 := (wr64 (by omega)).1
      have q2 : wrap64 (t + 1) = t + 1 := (wr64 (by clear q1; omega)).2
      go_wp2
      go_loopw [9] (fun i wq => ∃ k : Nat, k ≤ n ∧ i = .int .i64 k ∧ Hid (∀ i, i < k → ¬ (T i = t ∧ N ≤ cI T n wi (T i))) ∧ Hid (Gr w1 wq)) (fun i _ => n - (intOf i).toNat)
      case atStart => exact ⟨0, Nat.zero_le _, rfl, Lib.hid (fun i hi => by omega), HW⟩
      case round =>
        obtain ⟨k, hk, rfl, HK, HW2⟩ := hrel
        by_cases hlk : k < n
        · have GW := Lib.hid (G1.out.trans HW2.out)
          obtain ⟨b, o, rfl, hc⟩ := (HR.out.gr GW.out).at hlk
          obtain ⟨_, ck⟩ := hc k hlk
          have k1 : (k : Int) < (n : Int) := by clear q1 q2; omega
          have CK := Lib.hid (CT.out _ GW.out)
          clear hc
          have ec : ((cnT T n wi t : Nat) : Int) = cI T n wi t := rfl
          rw [ec] at CK
          clear ec
          by_cases h1 : T k = t
          · rw [h1] at ck
            by_cases h2 : N ≤ cI T n wi t
            · have R := Lib.hid (show IsT T (cI T n wi) n N t 0 from .inl ⟨rfl, ⟨k, hlk, h1, h2⟩, fun i hi h => by rw [← ht]; exact HB.out i hi h⟩)
              have h2' : ¬ cI T n wi t < N := by clear q1 q2; omega
              generalize cI T n wi t = x at *
              go_wp2_with (go_at_call 92; (with_reducible refine CK.out.mono ?_); rintro e w3 ⟨rfl, rfl⟩)
              exact bodyPost_ret (v := .tuple #[.int .i64 t, .int .i64 0]) (by simp [results, Tryd.results52, go_sem]) rfl ⟨_, _, R.out, rfl, GW.out⟩
            · have K2 := Lib.hid (show ∀ i, i < k + 1 → ¬ (T i = t ∧ N ≤ cI T n wi (T i)) from fun i hi => by
                by_cases e : i = k
                · subst e; rw [h1]; exact fun x => h2 x.2
                · exact HK.out i (by omega))
              generalize cI T n wi t = x at *
              go_wp2_with (go_at_call 92; (with_reducible refine CK.out.mono ?_); rintro e w3 ⟨rfl, rfl⟩)
              go_roundw
              case rel => exact ⟨k + 1, hlk, by go_num, K2, HW2⟩
              case measure => simp [intOf]; omega
          · have K2 := Lib.hid (show ∀ i, i < k + 1 → ¬ (T i = t ∧ N ≤ cI T n wi (T i)) from fun i hi => by
              by_cases e : i = k
              · subst e; exact fun x => h1 x.1
              · exact HK.out i (by omega))
            have h1' : (T k == t) = false := by simpa using h1
            clear h1
            generalize T k = y at *
            go_wp2_with fail
            go_roundw
            case rel => exact ⟨k + 1, hlk, by go_num, K2, HW2⟩
            case measure => simp [intOf]; omega
        · obtain rfl : k = n := by omega
          have k1 : ¬ (k : Int) < (k : Int) := by clear q1 q2; omega
          have HB2 := Lib.hid (show ∀ i, i < k → N ≤ cI T k wi (T i) → -1000 + ((d + 1 : Nat) : Int) ≤ T i from fun i hi h => by
            have a := HB.out i hi h
            have b := HK.out i hi
            have : T i ≠ t := fun e => b ⟨e, h⟩
            rw [ht] at a
            clear q1 q2
            omega)
          have ht2 : t + 1 = -1000 + ((d + 1 : Nat) : Int) := by clear q1 q2; omega
          go_wp2
          go_roundw
          case rel => exact ⟨d + 1, by clear q1 q2; omega, by first | rfl | go_num, HB2, HW2⟩
          case measure => simp [intOf]; clear q1 q2; omega
    · have R := Lib.hid (show IsT T (cI T n wi) n N 0 5 from .inr ⟨rfl, rfl, fun i hi => by
        have a := VT.out i hi
        by_cases h : N ≤ cI T n wi (T i)
        · have := HB.out i hi h; omega
        · omega⟩)
      go_wp2
      exact bodyPost_ret (v := .tuple #[.int .i64 0, .int .i64 5]) (by simp [results, Tryd.results52, go_sem]) rfl ⟨_, _, R.out, rfl, G1.out.trans HW.out⟩

end Go.Proofs.YtjokheeegcilhaaDoor
