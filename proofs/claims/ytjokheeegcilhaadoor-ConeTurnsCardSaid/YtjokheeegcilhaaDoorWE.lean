/- Contracts of chapter 2: tables that are the same, and wide ones. Contracts of chapter 2: cover of layers, once. Contracts of chapter 2: AreLayers of the program and of the reference. -/
import Derived.Test.YtjokheeegcilhaaDoorWD
import Derived.Test.YtjokheeegcilhaaDoorPB
namespace Go.Proofs.YtjokheeegcilhaaDoor
open Go.RowKit Go.Firn

theorem rdT_drewN {w : World} {a : Option Addr} {n : Nat} {r : Nat → Nat × (Nat → Int)} (h : RdT w a n r) {w' : World} (g : ∃ m, w' = w.drewN m) : RdT w' a n r := by
  obtain ⟨m, rfl⟩ := g
  exact h.gr ((Gr.refl w).drewN m)

theorem SameTables_q (a a' : Option Addr) (n c c' : Nat) (r : Nat → Nat × (Nat → Int)) (w : World) (hn : n ≤ 9223372036854775807) (hr : RdT w a n r) (hr' : RdT w a' n r) :
    Calls Tryd.prog 41 #[.slice a n c, .slice a' n c'] w (RetQ true w) := by
  have H1 := Lib.hid hr
  have H2 := Lib.hid hr'
  clear hr hr'
  go_enter Tryd.func41, Tryd.ntmps41
  go_wp2
  go_loopw [5] (fun i wr => ∃ k : Nat, k ≤ n ∧ i = .int .i64 k ∧ Hid (∃ m, wr = w.drewN m)) (fun i _ => n - (intOf i).toNat)
  case atStart => exact ⟨0, by omega, rfl, 0, rfl⟩
  case round =>
    obtain ⟨k, hk, rfl, hm⟩ := hrel
    by_cases hlt : k < n
    · obtain ⟨b, o, ai, ci, rfl, hc, l1, l2, l3⟩ := (rdT_drewN H1.out hm.out).at hlt
      obtain ⟨b', o', ai', ci', rfl, hc', m1, m2, m3⟩ := (rdT_drewN H2.out hm.out).at hlt
      unfold maxLen at l2 m2
      have S := Lib.hid (show ∀ w', Gr wr w' → Calls Tryd.prog 21 #[.slice ai (r k).1 ci, .slice ai' (r k).1 ci'] w' (RetQ true w') from fun w' g => by
        have := SameInts_q ai ai' (r k).1 ci (r k).1 ci' (r k).2 (r k).2 w' (by omega) (by omega) (l3.gr g) (m3.gr g)
        rwa [show eqB (r k).1 (r k).1 (r k).2 (r k).2 = true from eqB_true.2 ⟨rfl, fun _ _ => rfl⟩] at this)
      have i4 : (k : Int) < n := by omega
      clear l1 l2 l3 m1 m2 m3
      go_wp2_with fail
      go_quiet ((go_at_call 21; with_reducible exact Calls.quiet_of (S.out _ ((Gr.refl wr).drewN _))))
      go_wp2_with fail
      go_roundw
      case rel => exact ⟨k + 1, by omega, by go_num, drewN_more hm.out _⟩
      case measure => simp [intOf]; omega
    · obtain rfl : k = n := by omega
      go_wp2_with fail
      go_ret
      exact ⟨rfl, hm.out⟩

theorem Wide_q (a : Option Addr) (n c : Nat) (r : Nat → Nat × (Nat → Int)) (w : World) (hn : n ≤ 9223372036854775807) (hr : RdT w a n r) :
    Calls Tryd.prog 36 #[.slice a n c] w (RetQ (wideB n r) w) := by
  have H1 := Lib.hid hr
  clear hr
  go_enter Tryd.func36, Tryd.ntmps36
  go_wp2
  go_loopw [3] (fun i wr => ∃ k : Nat, k ≤ n ∧ i = .int .i64 k ∧ Hid (∀ i, i < k → (r i).1 ≤ 60) ∧ Hid (∃ m, wr = w.drewN m)) (fun i _ => n - (intOf i).toNat)
  case atStart => exact ⟨0, by omega, rfl, fun i hi => by omega, 0, rfl⟩
  case round =>
    obtain ⟨k, hk, rfl, hK, hm⟩ := hrel
    by_cases hlt : k < n
    · obtain ⟨b, o, ai, ci, rfl, hc, l1, l2, l3⟩ := (rdT_drewN H1.out hm.out).at hlt
      unfold maxLen at l2
      have i4 : (k : Int) < n := by omega
      by_cases h6 : (r k).1 ≤ 60
      · have K1 := Lib.hid (show ∀ i, i < k + 1 → (r i).1 ≤ 60 from fun i hi => by
          by_cases e : i = k
          · subst e; exact h6
          · exact hK.out i (by omega))
        have h7 : ¬ (60 : Int) < ((r k).1 : Int) := by omega
        clear l3 h6
        generalize (r k).1 = q at *
        go_wp2_with fail
        go_roundw
        case rel => exact ⟨k + 1, by omega, by go_num, K1, hm⟩
        case measure => simp [intOf]; omega
      · have E := Lib.hid (show wideB n r = true from wideB_of hlt (by omega))
        have h7 : (60 : Int) < ((r k).1 : Int) := by omega
        clear l3 h6
        generalize (r k).1 = q at *
        go_wp2_with fail
        go_ret
        rw [E.out]
        exact ⟨rfl, hm.out⟩
    · obtain rfl : k = n := by omega
      have E := Lib.hid (wideB_end hK.out)
      go_wp2_with fail
      go_ret
      rw [E.out, ← show decide ((60 : Int) < (k : Int)) = decide (60 < k) from by congr 1; apply propext; omega]
      exact ⟨rfl, hm.out⟩

end Go.Proofs.YtjokheeegcilhaaDoor

namespace Go.Proofs.YtjokheeegcilhaaDoor
open Go.RowKit Go.Firn

theorem layB_hit {n : Nat} {P T : Nat → Int} {m : Nat} {l : Nat → Int} (h : layB n P T m l = true) {j : Nat} (hj : j < m) : ∃ i : Nat, i < n ∧ l j = i := by
  unfold layB at h
  simp only [Bool.and_eq_true] at h
  exact layK_at h.1.1 hj

set_option maxHeartbeats 1000000 in
theorem coverL_any {n p b1 b2 : Nat} {P T : Nat → Int} (hn : n ≤ 14) (a : Option Addr) (N c : Nat) (r : Nat → Nat × (Nat → Int)) (w : World) (hN : N ≤ 60) (h60 : ∀ i, i < N → (r i).1 ≤ 60) (O : OrdB w p b1 b2 n (pastM n P T) (futM n P T)) (hr : RdT w a N r) :
    Calls Tryd.prog 82 #[.pointer (some ⟨p, 0, none⟩), .slice a N c, .func (.func 64) #[.pointer (some ⟨p, 0, none⟩)] #[]] w (RetQ (areB n (layB n P T) N r) w) := by
  have HO := Lib.hid O
  have HR := Lib.hid hr
  have H6 := Lib.hid h60
  have AL := Lib.hid (fun w' (g : ∃ m, w' = w.drewN m) => all_any hn w' (ordB_drewN HO.out g))
  have IL := Lib.hid (fun (ai : Option Addr) (m ci : Nat) (l : Nat → Int) (w' : World) (g : ∃ d, w' = w.drewN d) h1 h2 h3 => isLayer_any hn ai m ci l w' h1 h2 (ordB_drewN HO.out g) h3)
  clear O hr h60
  go_enter Tryd.func82, Tryd.ntmps82
  go_wp2
  go_loopw [7, 14] (fun so si wr => ∃ k s : Nat, k ≤ N ∧ so = .int .u16 s ∧ si = .int .i64 k ∧ Hid (kindK (layB n P T) r k = true) ∧ Hid (Seen n (occ r k) s) ∧ Hid (∃ d, wr = w.drewN d)) (fun _ si _ => N - (intOf si).toNat)
  case atStart => exact ⟨0, 0, Nat.zero_le _, rfl, rfl, kindK_zero _ _, Seen.zero n, 0, rfl⟩
  case round =>
    obtain ⟨k, s, hk, rfl, rfl, hK, hS, hd⟩ := hrel
    by_cases hlt : k < N
    · obtain ⟨b, o, ai, ci, rfl, hc, l1, l2, l3⟩ := (rdT_drewN HR.out hd.out).at hlt
      have i1 : (k : Int) < (N : Int) := by omega
      have C1 := Lib.hid (IL.out ai (r k).1 ci (r k).2 wr hd.out (by have := H6.out k hlt; omega) l1 l3)
      have L3 := Lib.hid l3
      clear l1 l2 l3
      by_cases hb : layB n P T (r k).1 (r k).2 = true
      · rw [hb] at C1
        have HB := Lib.hid (fun j (hj : j < (r k).1) => layB_hit hb hj)
        have KS := Lib.hid (show kindK (layB n P T) r (k + 1) = true by rw [kindK_succ, hK.out, hb]; rfl)
        have TW := Lib.hid (fun j x (hj : j ≤ (r k).1) (hx : x < n) (h : 2 ≤ occ r k x + occ1 (r k).2 j x) => areB_twice (B := layB n P T) hlt hj hx h)
        have OC := Lib.hid (fun x => show occ r k x + occ1 (r k).2 (r k).1 x = occ r (k + 1) x from rfl)
        have h6 := H6.out k hlt
        clear hb
        generalize (r k).1 = m at *
        generalize (r k).2 = l at *
        go_wp2_with (go_at_call 64; (with_reducible refine C1.out.mono ?_); rintro e w1 ⟨rfl, hd1⟩; have HD := Lib.hid (show ∃ d, w1 = w.drewN d from by obtain ⟨d, rfl⟩ := hd.out; obtain ⟨d', rfl⟩ := hd1; exact drewN_more ⟨d, rfl⟩ _); have L4 := Lib.hid (rdI_drewN L3.out hd1); clear hd1)
        go_loopw [7, 24] (fun so si wx => ∃ j s : Nat, j ≤ m ∧ so = .int .u16 s ∧ si = .int .i64 j ∧ Hid (Seen n (fun x => occ r k x + occ1 l j x) s) ∧ wx = w1) (fun _ si _ => m - (intOf si).toNat)
        case atStart => exact ⟨0, s, Nat.zero_le _, rfl, rfl, hS.out, rfl⟩
        case round =>
          obtain ⟨j, s, hj, rfl, rfl, hS, rfl⟩ := hrel
          by_cases hl2 : j < m
          · obtain ⟨bi, oi, rfl, hc2⟩ := L4.out.at hl2
            obtain ⟨x, hx, ex⟩ := HB.out j hl2
            have cj := hc2 j hl2
            rw [ex] at cj
            have j1 : (j : Int) < (m : Int) := by omega
            have s16 : s < 65536 := by have := hS.out.1; have := pow14 hn; omega
            have OJ := Lib.hid (fun y => show (occ r k y + occ1 l j y) + (if (x : Int) = (y : Int) then 1 else 0) = occ r k y + occ1 l (j + 1) y by rw [occ1, ex]; omega)
            clear hc2 ex
            cases hb : s.testBit x with
            | true =>
              have E := Lib.hid (TW.out (j + 1) x hl2 hx (by have h1 := hS.out.twice hx hb; have h2 := OJ.out x; rw [if_pos rfl] at h2; omega))
              have S1 := Lib.hid (show Calls Tryd.prog 68 #[.int .u16 s, .int .i64 x] wr (fun e w' => e = .returned (.bool true) ∧ wr = w') from by have := has_any s x s16 (by omega) wr; rw [hb] at this; exact this)
              clear hb s16
              go_wp2_with (go_at_call 68; (with_reducible refine S1.out.mono ?_); rintro e w1 ⟨rfl, rfl⟩)
              go_ret
              rw [E.out]
              exact ⟨rfl, HD.out⟩
            | false =>
              have S2 := Lib.hid ((hS.out.add hx hb).congr OJ.out)
              have S1 := Lib.hid (show Calls Tryd.prog 68 #[.int .u16 s, .int .i64 x] wr (fun e w' => e = .returned (.bool false) ∧ wr = w') from by have := has_any s x s16 (by omega) wr; rw [hb] at this; exact this)
              have e10 := shl_u16 (show x ≤ 15 by omega)
              have e11 := orp_u16 (x := s) (a := x) s16 (by omega)
              clear hb s16
              go_wp2_with (go_at_call 68; (with_reducible refine S1.out.mono ?_); rintro e w1 ⟨rfl, rfl⟩)
              go_roundw
              case rel => exact ⟨j + 1, _, hl2, rfl, by go_num, S2, by trivial⟩
              case measure => simp [intOf]; omega
          · obtain rfl : j = m := by omega
            have S2 := Lib.hid (hS.out.congr OC.out)
            go_wp2_with fail
            go_roundw
            case rel => exact ⟨k + 1, s, hlt, rfl, by go_num, KS.out, S2.out, HD.out⟩
            case measure => simp [intOf]; omega
      · have hb' : layB n P T (r k).1 (r k).2 = false := by simpa using hb
        rw [hb'] at C1
        have E := Lib.hid (show areB n (layB n P T) N r = false from areB_kind hlt hb')
        clear hb hb'
        generalize (r k).1 = m at *
        go_wp2_with (go_at_call 64; (with_reducible refine C1.out.mono ?_); rintro e w1 ⟨rfl, hd1⟩)
        go_ret
        rw [E.out]
        obtain ⟨d, rfl⟩ := hd.out
        obtain ⟨d', rfl⟩ := hd1
        exact ⟨rfl, drewN_more ⟨d, rfl⟩ _⟩
    · obtain rfl : k = N := by omega
      have A1 := Lib.hid (AL.out wr hd.out)
      have SN := Lib.hid (show decide ((s : Int) = ((2 ^ n - 1 : Nat) : Int)) = decide (s = 2 ^ n - 1) by congr 1; apply propext; omega)
      have E0 := Lib.hid (show areB n (layB n P T) k r = (decide (k ≤ 50) && decide (s = 2 ^ n - 1)) by rw [areB_done hK.out, hS.out.done])
      generalize 2 ^ n - 1 = q at A1 SN E0
      by_cases h5 : k ≤ 50
      · have E := Lib.hid (show areB n (layB n P T) k r = decide ((s : Int) = (q : Int)) by rw [E0.out, SN.out]; simp [h5])
        have h5' : (k : Int) ≤ 50 := by omega
        go_wp2_with (go_at_call 75; (with_reducible refine A1.out.mono ?_); rintro e w1 ⟨rfl, rfl⟩)
        go_ret
        rw [E.out]
        exact ⟨rfl, hd.out⟩
      · have E := Lib.hid (show areB n (layB n P T) k r = false by rw [E0.out]; simp [h5])
        have h5' : ¬ (k : Int) ≤ 50 := by omega
        go_wp2_with (go_at_call 75; (with_reducible refine A1.out.mono ?_); rintro e w1 ⟨rfl, rfl⟩)
        go_ret
        rw [E.out]
        exact ⟨rfl, hd.out⟩

theorem iV_cell {f : Nat → Nat} (i : Nat) : iV f i = .int .i64 (f i : Nat) := rfl

set_option maxHeartbeats 1000000 in
theorem once_any (adr : Option Addr) (n cc : Nat) (hn : n ≤ 14) (a : Option Addr) (N c : Nat) (r : Nat → Nat × (Nat → Int)) (w : World) (hN : N ≤ 60) (h60 : ∀ i, i < N → (r i).1 ≤ 60)
    (hit : ∀ i, i < N → ∀ j, j < (r i).1 → ∃ x : Nat, x < n ∧ (r i).2 j = x) (hr : RdT w a N r) :
    Calls Tryd.prog 102 #[.slice adr n cc, .slice a N c] w (RetB (onceB n N r) w) := by
  have HR := Lib.hid hr
  have H6 := Lib.hid h60
  have HX := Lib.hid hit
  have OL := Lib.hid (fun i (hi : i ≤ N) x => show occ r i x ≤ 3600 from by
    have := occ_le (r := r) (m := 60) i (fun k hk => h60 k (by omega)) x
    have h2 : i * 60 ≤ 3600 := by omega
    omega)
  clear hr h60 hit
  obtain ⟨cs, hcs, _, mk0⟩ := made Tryd.underlying23 Tryd.info3 rfl (by omega) n (by omega)
  obtain ⟨bk, hbk⟩ : ∃ bk, bk = w.heap.size := ⟨_, rfl⟩
  have R0 := Lib.hid ((RowG.new (w := w) (e := 3) hbk.symm hcs).congr (V' := iV (occ r 0)) fun i _ => by rfl)
  have G0 := Lib.hid ((Gr.refl w).alloc (.cells cs 3))
  have B0 := Lib.hid (show w.heap.size ≤ bk by omega)
  have NE := Lib.hid (fun (b o : Nat) (v : Value) (h : w.cell? ⟨b, o, none⟩ = some v) => show b ≠ bk from fun e => by have := World.block_lt_of_cell? w _ h; simp at this; omega)
  go_enter Tryd.func102, Tryd.ntmps102
  go_wp2
  rw [← hbk]
  clear hbk mk0 hcs
  go_loopw [6] (fun si wr => ∃ k : Nat, k ≤ N ∧ si = .int .i64 k ∧ Hid (RowG wr bk n (iV (occ r k))) ∧ Hid (Gr w wr)) (fun si _ => N - (intOf si).toNat)
  case atStart => exact ⟨0, Nat.zero_le _, rfl, R0, G0⟩
  case round =>
    obtain ⟨k, hk, rfl, hR, hG⟩ := hrel
    by_cases hlt : k < N
    · have i1 : (k : Int) < (N : Int) := by omega
      have O1 := Lib.hid (OL.out (k + 1) hlt)
      have h6 := H6.out k hlt
      have HK := Lib.hid (HX.out k hlt)
      have OC := Lib.hid (fun x => show occ r k x + occ1 (r k).2 (r k).1 x = occ r (k + 1) x from rfl)
      have OM := Lib.hid (fun x j (hj : j ≤ (r k).1) => occ1_mono (r k).2 hj x)
      go_wp2_with fail
      go_loopw [7] (fun sj wx => ∃ j : Nat, j ≤ (r k).1 ∧ sj = .int .i64 j ∧ Hid (RowG wx bk n (iV fun x => occ r k x + occ1 (r k).2 j x)) ∧ Hid (Gr w wx)) (fun sj _ => (r k).1 - (intOf sj).toNat)
      case atStart => exact ⟨0, Nat.zero_le _, rfl, hR, hG⟩
      case round =>
        clear hR hG
        obtain ⟨j, hj, rfl, hR, hG⟩ := hrel
        obtain ⟨b, o, ai, ci, rfl, hc, l1, l2, l3⟩ := (HR.out.gr hG.out).at hlt
        have L3 := Lib.hid l3
        clear l1 l2 l3
        by_cases hl2 : j < (r k).1
        · obtain ⟨bi, oi, rfl, hc2⟩ := L3.out.at hl2
          obtain ⟨x, hx, ex⟩ := HK.out j hl2
          have cj := hc2 j hl2
          have OJ := Lib.hid (fun y => show (occ r k y + occ1 (r k).2 j y) + (if (x : Int) = (y : Int) then 1 else 0) = occ r k y + occ1 (r k).2 (j + 1) y by rw [occ1, ex]; omega)
          rw [ex] at cj
          obtain ⟨d1, d2⟩ := hR.out x hx
          rw [iV_cell] at d1
          have R2 := Lib.hid ((hR.out.put (j := x) (.int .i64 ((occ r k x + occ1 (r k).2 j x + 1 : Nat) : Int))).congr (V' := iV fun y => occ r k y + occ1 (r k).2 (j + 1) y) fun y _ => by
            show (if y = x then _ else iV _ y) = _
            by_cases e : y = x
            · subst e; rw [if_pos rfl, iV_cell, ← OJ.out y, if_pos rfl]
            · rw [if_neg e, iV_cell, iV_cell, ← OJ.out y, if_neg (by omega)]; rfl)
          have G2 := Lib.hid (hG.out.setAt (b := bk) (j := x) B0.out (.int .i64 ((occ r k x + occ1 (r k).2 j x + 1 : Nat) : Int)))
          have q1 : occ r k x + occ1 (r k).2 j x ≤ 3600 := by have := O1.out x; have := OM.out x j (by omega); have := OC.out x; omega
          have j1 : (j : Int) < ((r k).1 : Int) := by omega
          have j2 : (x : Int) < (n : Int) := by omega
          clear hc2 ex OJ
          generalize occ r k x + occ1 (r k).2 j x = q at d1 R2 G2 q1
          have e1 : IntKind.i64.wrap ((q : Int) + 1) = ((q + 1 : Nat) : Int) := by rw [IntWalk.i64_in _ (by omega)]; omega
          generalize (r k).1 = m at *
          go_wp2_with fail
          go_roundw
          case rel => exact ⟨j + 1, hl2, by go_num, R2, G2⟩
          case measure => simp [intOf]; omega
        · have e2 : j = (r k).1 := by omega
          have R2 := Lib.hid (hR.out.congr (V' := iV (occ r (k + 1))) fun x _ => by rw [iV_cell, iV_cell, e2, OC.out])
          clear hR OC OM HK
          generalize (r k).1 = m at *
          go_wp2_with fail
          go_roundw
          case rel => exact ⟨k + 1, hlt, by go_num, R2, hG⟩
          case measure => simp [intOf]; omega
    · obtain rfl : k = N := by omega
      go_wp2_with fail
      go_loopw [8] (fun si wx => ∃ x : Nat, x ≤ n ∧ si = .int .i64 x ∧ Hid (∀ y, y < x → occ r k y = 1) ∧ wx = wr) (fun si _ => n - (intOf si).toNat)
      case atStart => exact ⟨0, Nat.zero_le _, rfl, fun y hy => by omega, rfl⟩
      case round =>
        obtain ⟨x, hx, rfl, hY, rfl⟩ := hrel
        by_cases hl2 : x < n
        · obtain ⟨d1, d2⟩ := hR.out x hl2
          rw [iV_cell] at d1
          have j1 : (x : Int) < (n : Int) := by omega
          by_cases h1 : occ r k x = 1
          · have Y2 := Lib.hid (show ∀ y, y < x + 1 → occ r k y = 1 from fun y hy => by
              by_cases e : y = x
              · subst e; exact h1
              · exact hY.out y (by omega))
            rw [h1] at d1
            clear h1 d2
            go_wp2_with fail
            go_roundw
            case rel => exact ⟨x + 1, hl2, by go_num, Y2, by trivial⟩
            case measure => simp [intOf]; omega
          · have E := Lib.hid (onceB_false (N := k) (r := r) hl2 h1)
            generalize occ r k x = q at d1 h1
            have h2 : ((q : Int) != 1) = true := by simp; omega
            clear h1 d2
            go_wp2_with fail
            go_ret
            rw [E.out]
            exact ⟨rfl, hG.out⟩
        · obtain rfl : x = n := by omega
          have E := Lib.hid (show onceB x k r = true from by unfold onceB; rw [List.all_eq_true]; intro y hy; simpa using hY.out y (List.mem_range.1 hy))
          go_wp2_with fail
          go_ret
          rw [E.out]
          exact ⟨rfl, hG.out⟩

end Go.Proofs.YtjokheeegcilhaaDoor

namespace Go.Proofs.YtjokheeegcilhaaDoor
open Go.RowKit Go.Firn

theorem areB_many {n : Nat} {B : Nat → (Nat → Int) → Bool} {N : Nat} {r : Nat → Nat × (Nat → Int)} (h : 50 < N) : areB n B N r = false := by
  unfold areB; rw [show decide (N ≤ 50) = false from decide_eq_false (by omega)]; rfl
theorem areB_all {n : Nat} {B : Nat → (Nat → Int) → Bool} {N : Nat} {r : Nat → Nat × (Nat → Int)} (h : N ≤ 50) (hk : kindK B r N = true) : areB n B N r = onceB n N r := by
  rw [areB_done hk]; simp [h]
theorem kindK_at {B : Nat → (Nat → Int) → Bool} {r : Nat → Nat × (Nat → Int)} {N : Nat} (h : kindK B r N = true) {i : Nat} (hi : i < N) : B (r i).1 (r i).2 = true := by
  unfold kindK at h
  exact List.all_eq_true.1 h i (List.mem_range.2 hi)

set_option maxHeartbeats 1000000 in
theorem areL_any (adr : Option Addr) (n cc : Nat) (P T : Nat → Int) (V : VH n P T) (a : Option Addr) (N c : Nat) (r : Nat → Nat × (Nat → Int)) (w : World) (hN : N ≤ 60) (h60 : ∀ i, i < N → (r i).1 ≤ 60) (hh : RdM w adr n P T) (hr : RdT w a N r) :
    Calls Tryd.prog 83 #[.slice adr n cc, .slice a N c, .bool true] w (RetB (areB n (layB n P T) N r) w) := by
  have HR := Lib.hid hr
  have HH := Lib.hid hh
  have HV := Lib.hid V
  have H6 := Lib.hid h60
  clear hr h60 hh V
  by_cases h5 : N ≤ 50
  rotate_left
  · have E := Lib.hid (areB_many (n := n) (B := layB n P T) (r := r) (show 50 < N by omega))
    have h5' : (50 : Int) < (N : Int) := by omega
    go_enter Tryd.func83, Tryd.ntmps83
    go_wp2_with fail
    go_ret
    rw [E.out]
    exact ⟨rfl, Gr.refl w⟩
  have h5' : ¬ (50 : Int) < (N : Int) := by omega
  go_enter Tryd.func83, Tryd.ntmps83
  go_wp2_with fail
  go_loopw [7] (fun si wr => ∃ k : Nat, k ≤ N ∧ si = .int .i64 k ∧ Hid (kindK (layB n P T) r k = true) ∧ Hid (∃ d, wr = w.drewN d)) (fun si _ => N - (intOf si).toNat)
  case atStart => exact ⟨0, Nat.zero_le _, rfl, kindK_zero _ _, 0, rfl⟩
  case round =>
    obtain ⟨k, hk, rfl, hK, hd⟩ := hrel
    by_cases hlt : k < N
    · obtain ⟨b, o, ai, ci, rfl, hc, l1, l2, l3⟩ := (rdT_drewN HR.out hd.out).at hlt
      have i1 : (k : Int) < (N : Int) := by omega
      have C1 := Lib.hid (refisLayer_any adr n cc P T HV.out ai (r k).1 ci (r k).2 wr (by have := H6.out k hlt; omega) (rdM_drewN HH.out hd.out) l3)
      clear l1 l2 l3
      cases hb : layB n P T (r k).1 (r k).2 with
      | true =>
        have KS := Lib.hid (show kindK (layB n P T) r (k + 1) = true by rw [kindK_succ, hK.out, hb]; rfl)
        rw [hb] at C1
        clear hb
        generalize (r k).1 = m at *
        go_wp2_with (go_at_call 65; (with_reducible refine C1.out.mono ?_); rintro e w1 ⟨rfl, hd1⟩; have HD := Lib.hid (show ∃ d, w1 = w.drewN d from by obtain ⟨d, rfl⟩ := hd.out; obtain ⟨d', rfl⟩ := hd1; exact drewN_more ⟨d, rfl⟩ _); clear hd1)
        go_roundw
        case rel => exact ⟨k + 1, hlt, by go_num, KS, HD⟩
        case measure => simp [intOf]; omega
      | false =>
        have E := Lib.hid (show areB n (layB n P T) N r = false from areB_kind hlt hb)
        rw [hb] at C1
        clear hb
        generalize (r k).1 = m at *
        go_wp2_with (go_at_call 65; (with_reducible refine C1.out.mono ?_); rintro e w1 ⟨rfl, hd1⟩; have HD := Lib.hid (show Gr w w1 from by obtain ⟨d, rfl⟩ := hd.out; obtain ⟨d', rfl⟩ := hd1; exact ((Gr.refl w).drewN _).drewN _); clear hd1)
        go_ret
        rw [E.out]
        exact ⟨rfl, HD.out⟩
    · obtain rfl : k = N := by omega
      have E := Lib.hid (areB_all (n := n) h5 hK.out)
      have G1 := Lib.hid (show Gr w wr from by obtain ⟨d, rfl⟩ := hd.out; exact (Gr.refl w).drewN _)
      have C1 := Lib.hid (once_any adr n cc HV.out.few a k c r wr hN H6.out (fun i hi j hj => layB_hit (kindK_at hK.out hi) hj) (HR.out.gr G1.out))
      go_wp2_with (go_at_call 102; (with_reducible refine C1.out.mono ?_); rintro e w1 ⟨rfl, g1⟩)
      go_ret
      rw [E.out]
      exact ⟨rfl, G1.out.trans g1⟩

/-- What AreLayers gives. -/
def areG (n : Nat) (P T : Nat → Int) (B : Nat → (Nat → Int) → Bool) (N : Nat) (r : Nat → Nat × (Nat → Int)) : Bool := vH n P T && areB n B N r

theorem refAreLayers_any (adr : Option Addr) (n cc : Nat) (P T : Nat → Int) (a : Option Addr) (N c : Nat) (r : Nat → Nat × (Nat → Int)) (w : World) (hn : n ≤ 1000) (hN : N ≤ 60) (h60 : ∀ i, i < N → (r i).1 ≤ 60) (hh : RdM w adr n P T) (hr : RdT w a N r) :
    Calls Tryd.prog 40 #[.slice adr n cc, .slice a N c] w (RetBE (areG n P T (layB n P T) N r) (errH n P T) w) := by
  have HH := Lib.hid hh
  have HR := Lib.hid hr
  have H6 := Lib.hid h60
  clear hh hr h60
  cases hv : vH n P T with
  | true =>
    have HV := Lib.hid (vH_iff.1 hv)
    have EV := Lib.hid hv
    have e1 := Lib.hid (show areG n P T (layB n P T) N r = areB n (layB n P T) N r by unfold areG; rw [hv]; rfl)
    have e2 := Lib.hid (show errH n P T = 0 by unfold errH; rw [if_pos hv])
    rw [e1.out, e2.out]
    clear hv
    go_enter Tryd.func40, Tryd.ntmps40
    go_wp2_with (first
      | (go_at_call 27; refine (refValid_any adr n cc P T _ hn HH.out).mono ?_; rintro e w1 h1; obtain ⟨rfl, g1⟩ := h1.gr; clear h1; rw [EV.out])
      | (go_at_call 83; refine (areL_any adr n cc P T HV.out a N c r _ hN H6.out (HH.out.gr g1) (HR.out.gr g1)).mono ?_; rintro e w2 ⟨rfl, g2⟩))
    go_ret2
    exact ⟨rfl, g1.trans g2⟩
  | false =>
    have HV := Lib.hid hv
    have e1 := Lib.hid (show areG n P T (layB n P T) N r = false by unfold areG; rw [hv]; rfl)
    have e2 := Lib.hid (show errH n P T = 20 by unfold errH; rw [hv]; rfl)
    rw [e1.out, e2.out]
    clear hv
    go_enter Tryd.func40, Tryd.ntmps40
    go_wp2_with (go_at_call 27; refine (refValid_any adr n cc P T _ hn HH.out).mono ?_; rintro e w1 h1; obtain ⟨rfl, g1⟩ := h1.gr; clear h1; rw [HV.out])
    go_ret2
    exact ⟨rfl, g1⟩

theorem AreLayers_any (adr : Option Addr) (n cc : Nat) (P T : Nat → Int) (a : Option Addr) (N c : Nat) (r : Nat → Nat × (Nat → Int)) (w : World) (hn : n ≤ 1000) (hw : WfH n P T) (hN : N ≤ 60) (h60 : ∀ i, i < N → (r i).1 ≤ 60) (hh : RdM w adr n P T) (hr : RdT w a N r) :
    Calls Tryd.prog 39 #[.slice adr n cc, .slice a N c] w (RetBE (areG n P T (layB n P T) N r) (errH n P T) w) := by
  have hmf : ∀ (fn : Fn) (first cap : Array Value) (w : World), (Instr.makeFunc fn first cap).run Tryd.prog w = .ok (.func fn first cap) w := fun _ _ _ _ => rfl
  have HW := Lib.hid hw
  have HH := Lib.hid hh
  have HR := Lib.hid hr
  have H6 := Lib.hid h60
  have cb := Lib.hid ((Gr.refl (w.alloc (.cells #[.slice a N c] 43))).fresh' (b := w.heap.size) (j := 0) (v := .slice a N c) rfl rfl).1
  have G0 := Lib.hid ((Gr.refl w).alloc (.cells #[.slice a N c] 43))
  clear hw hh hr h60
  cases hv : vH n P T with
  | true =>
    have HV := Lib.hid (vH_iff.1 hv)
    have e1 := Lib.hid (show areG n P T (layB n P T) N r = areB n (layB n P T) N r by unfold areG; rw [hv]; rfl)
    have e2 := Lib.hid (show errH n P T = 0 by unfold errH; rw [if_pos hv])
    rw [e1.out, e2.out]
    clear hv
    go_enter Tryd.func39, Tryd.ntmps39
    go_wp2_with (first
      | (go_at_call 66; refine (open_any adr n cc P T _ HV.out HW.out (HH.out.gr G0.out)).mono ?_; rintro e w1 ⟨p, b1, b2, rfl, O, g1, l1⟩; have c1 := g1.cell cb.out; have HO := Lib.hid O; clear O)
      | (go_at_call 82; refine (coverL_any HV.out.few a N c r _ hN H6.out HO.out (HR.out.gr (G0.out.trans g1))).mono ?_; rintro e w2 h2; obtain ⟨rfl, g2⟩ := h2.gr; clear h2)
      | go_in)
    go_ret2
    exact ⟨rfl, (G0.out.trans g1).trans g2⟩
  | false =>
    have HV := Lib.hid hv
    have e1 := Lib.hid (show areG n P T (layB n P T) N r = false by unfold areG; rw [hv]; rfl)
    have e2 := Lib.hid (show errH n P T = 20 by unfold errH; rw [hv]; rfl)
    rw [e1.out, e2.out]
    clear hv
    go_enter Tryd.func39, Tryd.ntmps39
    go_wp2_with (first
      | (go_at_call 66; refine (open_bad adr n cc P T _ hn HV.out HW.out (HH.out.gr G0.out)).mono ?_; rintro e w1 ⟨rfl, g1⟩)
      | go_in)
    go_ret2
    exact ⟨rfl, G0.out.trans g1⟩

end Go.Proofs.YtjokheeegcilhaaDoor
