/- Contracts of chapter 2: moved hits of the reference, turned hits of both, and the same hits. Contracts of chapter 2: turned hits of the program and of the reference, and the same hits. -/
import Derived.Test.YtjokheeegcilhaaDoorW18
namespace Go.Proofs.YtjokheeegcilhaaDoor
open Go.RowKit Go.Firn

theorem within_v {a x b : Int} {v : Bool} (h : btw a x b = v) (w : World) : Calls Tryd.prog 72 #[.int .i64 a, .int .i64 x, .int .i64 b] w fun e w' => e = .returned (.bool v) ∧ w' = w := by
  subst h; exact (within_any a x b w).mono fun _ _ h => ⟨h.1, h.2.symm⟩

set_option maxHeartbeats 1000000 in
theorem refMoved_any (adr : Option Addr) (n c : Nat) (P T : Nat → Int) (p t : Int) (w : World) (hn : n ≤ 1000) (hr : RdM w adr n P T) :
    Calls Tryd.prog 32 #[.slice adr n c, .int .i64 p, .int .i64 t] w (RetMf (mvN n P T p t) (fun i => P i + p) (fun i => T i + t) (errM n P T p t) w) := by
  have HR := Lib.hid hr
  clear hr
  cases hv : vH n P T with
  | false =>
    have HV := Lib.hid hv
    have e1 : mvN n P T p t = 0 := by unfold mvN; rw [hv]; rfl
    have e2 : errM n P T p t = 20 := by unfold errM; rw [hv]; rfl
    rw [e1, e2]
    clear hv e1 e2
    go_enter Tryd.func32, Tryd.ntmps32
    go_wp2_with (go_at_call 27; refine (refValid_any adr n c P T _ hn HR.out).mono ?_; rintro e w1 h1; obtain ⟨rfl, g1⟩ := h1.gr; clear h1; rw [HV.out])
    go_ret2
    exact ⟨none, 0, rfl, Nat.le_refl _, by unfold maxLen; omega, .inl rfl, g1⟩
  | true =>
    have V := vH_iff.1 hv
    have HV := Lib.hid V
    have EV := Lib.hid hv
    have hf := V.few
    have EN := Lib.hid (show mvN n P T p t = if okMK P T p t n = true then n else 0 by unfold mvN; rw [hv]; rfl)
    have EE := Lib.hid (show errM n P T p t = if okMK P T p t n = true then 0 else 2 by unfold errM; rw [hv]; rfl)
    clear V hv
    go_enter Tryd.func32, Tryd.ntmps32
    go_wp2_with (go_at_call 27; refine (refValid_any adr n c P T _ hn HR.out).mono ?_; rintro e w1 h1; obtain ⟨rfl, g1⟩ := h1.gr; clear h1; rw [EV.out])
    have G1 := Lib.hid g1
    clear g1
    go_loopw [8, 9] (fun v s wr => ∃ k : Nat, k ≤ n ∧ s = .int .i64 k ∧ Hid (okMK P T p t k = true) ∧ OwnM w 51 wr v (pairs k (fun i => P i + p) (fun i => T i + t))) (fun _ s _ => n - (intOf s).toNat)
    case atStart => exact ⟨0, Nat.zero_le _, rfl, okMK_zero P T p t, OwnM.nil' G1.out 51⟩
    case round =>
      obtain ⟨k, hk, rfl, hO, hown⟩ := hrel
      by_cases hlt : k < n
      · obtain ⟨b, o, rfl, hc⟩ := (HR.out.gr hown.2).at hlt
        obtain ⟨c0, c1⟩ := hc k hlt
        have k1 : (k : Int) < (n : Int) := by omega
        obtain ⟨o1, o2, o3, o4⟩ := HV.out.ok k hlt
        have e1 : IntKind.i64.wrap (-1000 - P k) = -1000 - P k := IntWalk.i64_in _ (by omega)
        have e2 : IntKind.i64.wrap (1000 - P k) = 1000 - P k := IntWalk.i64_in _ (by omega)
        have e3 : IntKind.i64.wrap (-1000 - T k) = -1000 - T k := IntWalk.i64_in _ (by omega)
        have e4 : IntKind.i64.wrap (1000 - T k) = 1000 - T k := IntWalk.i64_in _ (by omega)
        clear hc
        cases h1 : inR (P k + p) with
        | false =>
          have ho := okMK_stop (P := P) (T := T) (p := p) (t := t) hlt (by rw [h1]; rfl)
          have EN2 := Lib.hid (show mvN n P T p t = 0 by rw [EN.out, ho]; rfl)
          have EE2 := Lib.hid (show errM n P T p t = 2 by rw [EE.out, ho]; rfl)
          have S1 := Lib.hid (within_v (by rw [btw_moved, h1] : btw (-1000 - P k) p (1000 - P k) = false))
          clear h1 ho
          go_wp2_with fail
          go_quiet ((go_at_call 72; with_reducible exact Calls.quiet_of_same (S1.out _)))
          go_wp2_with fail
          go_ret2
          rw [EN2.out, EE2.out]
          exact ⟨none, 0, rfl, Nat.le_refl _, by unfold maxLen; omega, .inl rfl, hown.2.drewN _⟩
        | true =>
          have S1 := Lib.hid (within_v (by rw [btw_moved, h1] : btw (-1000 - P k) p (1000 - P k) = true))
          cases h2 : inR (T k + t) with
          | false =>
            have ho := okMK_stop (P := P) (T := T) (p := p) (t := t) hlt (by rw [h1, h2]; rfl)
            have EN2 := Lib.hid (show mvN n P T p t = 0 by rw [EN.out, ho]; rfl)
            have EE2 := Lib.hid (show errM n P T p t = 2 by rw [EE.out, ho]; rfl)
            have S2 := Lib.hid (within_v (by rw [btw_moved, h2] : btw (-1000 - T k) t (1000 - T k) = false))
            clear h1 h2 ho
            go_wp2_with fail
            go_quiet ((first | (go_at_call 72; with_reducible exact Calls.quiet_of_same (S1.out _)) | (go_at_call 72; with_reducible exact Calls.quiet_of_same (S2.out _))))
            go_wp2_with fail
            go_ret2
            rw [EN2.out, EE2.out]
            exact ⟨none, 0, rfl, Nat.le_refl _, by unfold maxLen; omega, .inl rfl, hown.2.drewN _⟩
          | true =>
            have S2 := Lib.hid (within_v (by rw [btw_moved, h2] : btw (-1000 - T k) t (1000 - T k) = true))
            have OK := Lib.hid (show okMK P T p t (k + 1) = true by rw [okMK_succ, hO.out, h1, h2]; rfl)
            have r1 := inR_iff.1 h1
            have r2 := inR_iff.1 h2
            have e5 : IntKind.i64.wrap (P k + p) = P k + p := IntWalk.i64_in _ (by omega)
            have e6 : IntKind.i64.wrap (T k + t) = T k + t := IntWalk.i64_in _ (by omega)
            have hl : (pairs k (fun i => P i + p) (fun i => T i + t)).length < 1000000000 := by rw [pairs_length]; omega
            have PS := Lib.hid (pairs_succ k (fun i => P i + p) (fun i => T i + t))
            clear h1 h2 r1 r2
            go_wp2_with fail
            go_quiet ((first | (go_at_call 72; with_reducible exact Calls.quiet_of_same (S1.out _)) | (go_at_call 72; with_reducible exact Calls.quiet_of_same (S2.out _))))
            go_wp2_with fail
            generalize hwa : World.drewN _ _ = wa
            have ow := hown.gr (show Gr wr wa by rw [← hwa]; exact (Gr.refl wr).drewN _)
            have d0 : wa.cell? ⟨b, o + k * 2, none⟩ = some (.int .i64 (P k)) := by rw [← hwa]; exact c0
            have d1 : wa.cell? ⟨b, o + k * 2 + 1, none⟩ = some (.int .i64 (T k)) := by rw [← hwa]; exact c1
            clear hwa c0 c1 e1 e2 e3 e4
            go_region_held3 (fun w' => w'.cell? ⟨b, o + k * 2, none⟩ = some (.int .i64 (P k)) ∧ w'.cell? ⟨b, o + k * 2 + 1, none⟩ = some (.int .i64 (T k)))
              (first | go_keep | (obtain ⟨bl', o', e9, hc'⟩ := (HR.out.gr hown2.2).at hlt; simp at e9; obtain ⟨rfl, rfl⟩ := e9; exact hc' k hlt))
              (first
                | (refine step_app_pair rfl _ _ 22 51 rfl Tryd.underlying22 Tryd.info51 _ (pairs k (fun i => P i + p) (fun i => T i + t)) rfl (ow.drew.alloc _) _ _ _ rfl (cell_new2 _ _ _ _) hl ?_; intro v1 w3 hown2 _))
            go_wp2_with fail
            go_roundw
            case rel => exact ⟨k + 1, hlt, by go_num, OK, by rw [PS.out]; exact hown2⟩
            case measure => simp [intOf]; omega
      · obtain rfl : k = n := by omega
        have EN2 := Lib.hid (show mvN k P T p t = k by rw [EN.out, hO.out]; rfl)
        have EE2 := Lib.hid (show errM k P T p t = 0 by rw [EE.out, hO.out]; rfl)
        go_wp2_with fail
        go_ret2
        rw [EN2.out, EE2.out]
        exact (hown.ret 0).mf

end Go.Proofs.YtjokheeegcilhaaDoor

namespace Go.Proofs.YtjokheeegcilhaaDoor
open Go.RowKit Go.Firn

set_option maxHeartbeats 1000000 in
theorem Turned_any (adr : Option Addr) (n c : Nat) (P T : Nat → Int) (w : World) (hn : n ≤ 1000) (hw : WfH n P T) (hr : RdM w adr n P T) :
    Calls Tryd.prog 33 #[.slice adr n c] w (RetMf (tuN n P T) P (fun i => -T i) (errH n P T) w) := by
  have HW := Lib.hid hw
  have HR := Lib.hid hr
  clear hw hr
  cases hv : vH n P T with
  | false =>
    have HV := Lib.hid hv
    have e1 : tuN n P T = 0 := by unfold tuN; rw [hv]; rfl
    have e2 : errH n P T = 20 := by unfold errH; rw [hv]; rfl
    rw [e1, e2]
    clear hv e1 e2
    go_enter Tryd.func33, Tryd.ntmps33
    go_wp2_with (go_at_call 26; refine (Valid_any adr n c P T _ hn HW.out HR.out).mono ?_; rintro e w1 ⟨rfl, g1⟩; rw [HV.out])
    go_ret2
    exact ⟨none, 0, rfl, Nat.le_refl _, by unfold maxLen; omega, .inl rfl, g1⟩
  | true =>
    have V := vH_iff.1 hv
    have HV := Lib.hid V
    have EV := Lib.hid hv
    have hp := V.pos
    have hf := V.few
    have e1 : tuN n P T = n := by unfold tuN; rw [hv]; rfl
    have e2 : errH n P T = 0 := by unfold errH; rw [hv]; rfl
    rw [e1, e2]
    clear V hv e1 e2
    go_enter Tryd.func33, Tryd.ntmps33
    go_wp2_with (first
      | (go_at_call 26; refine (Valid_any adr n c P T _ hn HW.out HR.out).mono ?_; rintro e w1 ⟨rfl, g1⟩; rw [EV.out])
      | (go_at_call 78; refine (Clone_any adr n c P T _ hp hn (HR.out.gr g1)).mono ?_; rintro e w2 ⟨g, cap, rfl, r1, r2, r3, r4, g2⟩; have G2 := Lib.hid (g1.trans g2); have B0 := Lib.hid (show w.heap.size ≤ g from Nat.le_trans g1.size r3); have R0 := Lib.hid (r4.congr (P' := P) (T' := fun i => if i < 0 then -T i else T i) fun i _ => ⟨rfl, rfl⟩); clear r4 g2 g1 r3))
    go_loopw [13] (fun s wr => ∃ k : Nat, k ≤ n ∧ s = .int .i64 k ∧ Hid (RowP wr g n P (fun i => if i < k then -T i else T i)) ∧ Hid (Gr w wr)) (fun s _ => n - (intOf s).toNat)
    case atStart => exact ⟨0, Nat.zero_le _, rfl, R0, G2⟩
    case round =>
      obtain ⟨k, hk, rfl, hR, hG⟩ := hrel
      by_cases hlt : k < n
      · obtain ⟨d1, d2, d3, d4⟩ := hR.out k hlt
        simp only [Nat.lt_irrefl, if_false] at d2
        have k1 : (k : Int) < (n : Int) := by omega
        obtain ⟨o1, o2, o3, o4⟩ := HV.out.ok k hlt
        have e1 : IntKind.i64.wrap (T k * -1) = -T k := by rw [IntWalk.i64_in _ (by omega)]; omega
        have e3 : IntKind.i64.wrap (-T k) = -T k := IntWalk.i64_in _ (by omega)
        have R2 := Lib.hid ((hR.out.put2 (j := k) (-T k)).congr (P' := P) (T' := fun i => if i < k + 1 then -T i else T i) fun i _ => by
          by_cases e : i = k
          · subst e; simp
          · have : (i < k) = (i < k + 1) := by apply propext; omega
            simp only [e, if_false, this]; exact ⟨trivial, trivial⟩)
        have G3 := Lib.hid (hG.out.setAt (b := g) (j := k * 2 + 1) B0.out (.int .i64 (-T k)))
        go_wp2_with fail
        go_roundw
        case rel => exact ⟨k + 1, hlt, by go_num, R2, G3⟩
        case measure => simp [intOf]; omega
      · obtain rfl : k = n := by omega
        have R2 := Lib.hid (hR.out.congr (P' := P) (T' := fun i => -T i) fun i hi => by simp [hi])
        go_wp2_with fail
        go_ret2
        exact ⟨_, cap, rfl, r1, r2, R2.out.rd, hG.out⟩

set_option maxHeartbeats 1000000 in
theorem refTurned_any (adr : Option Addr) (n c : Nat) (P T : Nat → Int) (w : World) (hn : n ≤ 1000) (hr : RdM w adr n P T) :
    Calls Tryd.prog 34 #[.slice adr n c] w (RetMf (tuN n P T) P (fun i => -T i) (errH n P T) w) := by
  have HR := Lib.hid hr
  clear hr
  cases hv : vH n P T with
  | false =>
    have HV := Lib.hid hv
    have e1 : tuN n P T = 0 := by unfold tuN; rw [hv]; rfl
    have e2 : errH n P T = 20 := by unfold errH; rw [hv]; rfl
    rw [e1, e2]
    clear hv e1 e2
    go_enter Tryd.func34, Tryd.ntmps34
    go_wp2_with (go_at_call 27; refine (refValid_any adr n c P T _ hn HR.out).mono ?_; rintro e w1 h1; obtain ⟨rfl, g1⟩ := h1.gr; clear h1; rw [HV.out])
    go_ret2
    exact ⟨none, 0, rfl, Nat.le_refl _, by unfold maxLen; omega, .inl rfl, g1⟩
  | true =>
    have V := vH_iff.1 hv
    have HV := Lib.hid V
    have EV := Lib.hid hv
    have hf := V.few
    have e1 : tuN n P T = n := by unfold tuN; rw [hv]; rfl
    have e2 : errH n P T = 0 := by unfold errH; rw [hv]; rfl
    rw [e1, e2]
    clear V hv e1 e2
    go_enter Tryd.func34, Tryd.ntmps34
    go_wp2_with (go_at_call 27; refine (refValid_any adr n c P T _ hn HR.out).mono ?_; rintro e w1 h1; obtain ⟨rfl, g1⟩ := h1.gr; clear h1; rw [EV.out])
    have G1 := Lib.hid g1
    clear g1
    go_loopw [4, 5] (fun v s wr => ∃ k : Nat, k ≤ n ∧ s = .int .i64 k ∧ OwnM w 51 wr v (pairs k P (fun i => -T i))) (fun _ s _ => n - (intOf s).toNat)
    case atStart => exact ⟨0, Nat.zero_le _, rfl, OwnM.nil' G1.out 51⟩
    case round =>
      obtain ⟨k, hk, rfl, hown⟩ := hrel
      by_cases hlt : k < n
      · obtain ⟨b, o, rfl, hc⟩ := (HR.out.gr hown.2).at hlt
        obtain ⟨d0, d1⟩ := hc k hlt
        have k1 : (k : Int) < (n : Int) := by omega
        obtain ⟨o1, o2, o3, o4⟩ := HV.out.ok k hlt
        have e1 : IntKind.i64.wrap (-T k) = -T k := IntWalk.i64_in _ (by omega)
        have hl : (pairs k P (fun i => -T i)).length < 1000000000 := by rw [pairs_length]; omega
        have PS := Lib.hid (pairs_succ k P (fun i => -T i))
        clear hc o1 o2 o3 o4
        go_wp2_with fail
        go_region_held3 (fun w' => w'.cell? ⟨b, o + k * 2, none⟩ = some (.int .i64 (P k)) ∧ w'.cell? ⟨b, o + k * 2 + 1, none⟩ = some (.int .i64 (T k)))
          (first | go_keep | (obtain ⟨bl', o', e9, hc'⟩ := (HR.out.gr hown2.2).at hlt; simp at e9; obtain ⟨rfl, rfl⟩ := e9; exact hc' k hlt))
          (first
            | (refine step_app_pair rfl _ _ 22 51 rfl Tryd.underlying22 Tryd.info51 _ (pairs k P (fun i => -T i)) rfl (hown.drew.alloc _) _ _ _ rfl (cell_new2 _ _ _ _) hl ?_; intro v1 w3 hown2 _))
        go_wp2_with fail
        go_roundw
        case rel => exact ⟨k + 1, hlt, by go_num, by rw [PS.out]; exact hown2⟩
        case measure => simp [intOf]; omega
      · obtain rfl : k = n := by omega
        go_wp2_with fail
        go_ret2
        exact (hown.ret 0).mf

/-- The same hits, twice. -/
theorem SameHits_v (a a' : Option Addr) (n c c' : Nat) (P T : Nat → Int) (w : World) (hn : n ≤ 9223372036854775807) (hr : RdM w a n P T) (hr' : RdM w a' n P T) :
    Calls Tryd.prog 35 #[.slice a n c, .slice a' n c'] w (RetB true w) := by
  have HR := Lib.hid hr
  have HR' := Lib.hid hr'
  clear hr hr'
  go_enter Tryd.func35, Tryd.ntmps35
  go_wp2
  go_loopw [5] (fun s wr => ∃ k : Nat, k ≤ n ∧ s = .int .i64 k ∧ Hid (Gr w wr)) (fun s _ => n - (intOf s).toNat)
  case atStart => exact ⟨0, Nat.zero_le _, rfl, Gr.refl w⟩
  case round =>
    obtain ⟨k, hk, rfl, hg⟩ := hrel
    by_cases hlt : k < n
    · obtain ⟨b, o, rfl, hc⟩ := (HR.out.gr hg.out).at hlt
      obtain ⟨b', o', rfl, hc'⟩ := (HR'.out.gr hg.out).at hlt
      obtain ⟨c0, c1⟩ := hc k hlt
      obtain ⟨d0, d1⟩ := hc' k hlt
      have k1 : (k : Int) < (n : Int) := by omega
      clear hc hc'
      go_wp2
      go_quiet (fail)
      go_wp2
      go_roundw
      case rel => exact ⟨k + 1, hlt, by go_num, hg.out.drewN _⟩
      case measure => simp [intOf]; omega
    · obtain rfl : k = n := by omega
      go_wp2
      go_ret
      exact ⟨rfl, hg.out⟩

end Go.Proofs.YtjokheeegcilhaaDoor
