/- Contracts of chapter 2: cover of layers, once. -/
import Derived.Test.YthgbnjndljjbgaaDoorW24
namespace Go.Proofs.YthgbnjndljjbgaaDoor
open Go.RowKit Go.Firn

theorem layB_hit {n : Nat} {P T : Nat → Int} {m : Nat} {l : Nat → Int} (h : layB n P T m l = true) {j : Nat} (hj : j < m) : ∃ i : Nat, i < n ∧ l j = i := by
  unfold layB at h
  simp only [Bool.and_eq_true] at h
  exact layK_at h.1.1 hj

set_option maxHeartbeats 1000000 in
theorem coverL_any {n p b1 b2 : Nat} {P T : Nat → Int} (hn : n ≤ 14) (a : Option Addr) (N c : Nat) (r : Nat → Nat × (Nat → Int)) (w : World) (hN : N ≤ 60) (h60 : ∀ i, i < N → (r i).1 ≤ 60) (O : OrdB w p b1 b2 n (pastM n P T) (futM n P T)) (hr : RdT w a N r) :
    Calls Tryd.prog 82 #[.pointer (some ⟨p, 0, none⟩), .slice a N c, .func (.func 64) #[.pointer (some ⟨p, 0, none⟩)] #[]] w (RetQ (areB n (layB n P T) N r) w) := by
  have HO := Lib.hid O
  have HR := Lib.hid hr
  have H6 := Lib.hid h60
  have AL := Lib.hid (fun w' (g : ∃ m, w' = w.drewN m) => all_any hn w' (ordB_drewN HO.out g))
  have IL := Lib.hid (fun (ai : Option Addr) (m ci : Nat) (l : Nat → Int) (w' : World) (g : ∃ d, w' = w.drewN d) h1 h2 h3 => isLayer_any hn ai m ci l w' h1 h2 (ordB_drewN HO.out g) h3)
  clear O hr h60
  go_enter Tryd.func82, Tryd.ntmps82
  go_wp2
  go_loopw [7, 14] (fun so si wr => ∃ k s : Nat, k ≤ N ∧ so = .int .u16 s ∧ si = .int .i64 k ∧ Hid (kindK (layB n P T) r k = true) ∧ Hid (Seen n (occ r k) s) ∧ Hid (∃ d, wr = w.drewN d)) (fun _ si _ => N - (intOf si).toNat)
  case atStart => exact ⟨0, 0, Nat.zero_le _, rfl, rfl, kindK_zero _ _, Seen.zero n, 0, rfl⟩
  case round =>
    obtain ⟨k, s, hk, rfl, rfl, hK, hS, hd⟩ := hrel
    by_cases hlt : k < N
    · obtain ⟨b, o, ai, ci, rfl, hc, l1, l2, l3⟩ := (rdT_drewN HR.out hd.out).at hlt
      have i1 : (k : Int) < (N : Int) := by omega
      have C1 := Lib.hid (IL.out ai (r k).1 ci (r k).2 wr hd.out (by have := H6.out k hlt; omega) l1 l3)
      have L3 := Lib.hid l3
      clear l1 l2 l3
      by_cases hb : layB n P T (r k).1 (r k).2 = true
      · rw [hb] at C1
        have HB := Lib.hid (fun j (hj : j < (r k).1) => layB_hit hb hj)
        have KS := Lib.hid (show kindK (layB n P T) r (k + 1) = true by rw [kindK_succ, hK.out, hb]; rfl)
        have TW := Lib.hid (fun j x (hj : j ≤ (r k).1) (hx : x < n) (h : 2 ≤ occ r k x + occ1 (r k).2 j x) => areB_twice (B := layB n P T) hlt hj hx h)
        have OC := Lib.hid (fun x => show occ r k x + occ1 (r k).2 (r k).1 x = occ r (k + 1) x from rfl)
        have h6 := H6.out k hlt
        clear hb
        generalize (r k).1 = m at *
        generalize (r k).2 = l at *
        go_wp2_with (go_at_call 64; (with_reducible refine C1.out.mono ?_); rintro e w1 ⟨rfl, hd1⟩; have HD := Lib.hid (show ∃ d, w1 = w.drewN d from by obtain ⟨d, rfl⟩ := hd.out; obtain ⟨d', rfl⟩ := hd1; exact drewN_more ⟨d, rfl⟩ _); have L4 := Lib.hid (rdI_drewN L3.out hd1); clear hd1)
        go_loopw [7, 24] (fun so si wx => ∃ j s : Nat, j ≤ m ∧ so = .int .u16 s ∧ si = .int .i64 j ∧ Hid (Seen n (fun x => occ r k x + occ1 l j x) s) ∧ wx = w1) (fun _ si _ => m - (intOf si).toNat)
        case atStart => exact ⟨0, s, Nat.zero_le _, rfl, rfl, hS.out, rfl⟩
        case round =>
          obtain ⟨j, s, hj, rfl, rfl, hS, rfl⟩ := hrel
          by_cases hl2 : j < m
          · obtain ⟨bi, oi, rfl, hc2⟩ := L4.out.at hl2
            obtain ⟨x, hx, ex⟩ := HB.out j hl2
            have cj := hc2 j hl2
            rw [ex] at cj
            have j1 : (j : Int) < (m : Int) := by omega
            have s16 : s < 65536 := by have := hS.out.1; have := pow14 hn; omega
            have OJ := Lib.hid (fun y => show (occ r k y + occ1 l j y) + (if (x : Int) = (y : Int) then 1 else 0) = occ r k y + occ1 l (j + 1) y by rw [occ1, ex]; omega)
            clear hc2 ex
            cases hb : s.testBit x with
            | true =>
              have E := Lib.hid (TW.out (j + 1) x hl2 hx (by have h1 := hS.out.twice hx hb; have h2 := OJ.out x; rw [if_pos rfl] at h2; omega))
              have S1 := Lib.hid (show Calls Tryd.prog 68 #[.int .u16 s, .int .i64 x] wr (fun e w' => e = .returned (.bool true) ∧ wr = w') from by have := has_any s x s16 (by omega) wr; rw [hb] at this; exact this)
              clear hb s16
              go_wp2_with (go_at_call 68; (with_reducible refine S1.out.mono ?_); rintro e w1 ⟨rfl, rfl⟩)
              go_ret
              rw [E.out]
              exact ⟨rfl, HD.out⟩
            | false =>
              have S2 := Lib.hid ((hS.out.add hx hb).congr OJ.out)
              have S1 := Lib.hid (show Calls Tryd.prog 68 #[.int .u16 s, .int .i64 x] wr (fun e w' => e = .returned (.bool false) ∧ wr = w') from by have := has_any s x s16 (by omega) wr; rw [hb] at this; exact this)
              have e10 := shl_u16 (show x ≤ 15 by omega)
              have e11 := orp_u16 (x := s) (a := x) s16 (by omega)
              clear hb s16
              go_wp2_with (go_at_call 68; (with_reducible refine S1.out.mono ?_); rintro e w1 ⟨rfl, rfl⟩)
              go_roundw
              case rel => exact ⟨j + 1, _, hl2, rfl, by go_num, S2, by trivial⟩
              case measure => simp [intOf]; omega
          · obtain rfl : j = m := by omega
            have S2 := Lib.hid (hS.out.congr OC.out)
            go_wp2_with fail
            go_roundw
            case rel => exact ⟨k + 1, s, hlt, rfl, by go_num, KS.out, S2.out, HD.out⟩
            case measure => simp [intOf]; omega
      · have hb' : layB n P T (r k).1 (r k).2 = false := by simpa using hb
        rw [hb'] at C1
        have E := Lib.hid (show areB n (layB n P T) N r = false from areB_kind hlt hb')
        clear hb hb'
        generalize (r k).1 = m at *
        go_wp2_with (go_at_call 64; (with_reducible refine C1.out.mono ?_); rintro e w1 ⟨rfl, hd1⟩)
        go_ret
        rw [E.out]
        obtain ⟨d, rfl⟩ := hd.out
        obtain ⟨d', rfl⟩ := hd1
        exact ⟨rfl, drewN_more ⟨d, rfl⟩ _⟩
    · obtain rfl : k = N := by omega
      have A1 := Lib.hid (AL.out wr hd.out)
      have SN := Lib.hid (show decide ((s : Int) = ((2 ^ n - 1 : Nat) : Int)) = decide (s = 2 ^ n - 1) by congr 1; apply propext; omega)
      have E0 := Lib.hid (show areB n (layB n P T) k r = (decide (k ≤ 50) && decide (s = 2 ^ n - 1)) by rw [areB_done hK.out, hS.out.done])
      generalize 2 ^ n - 1 = q at A1 SN E0
      by_cases h5 : k ≤ 50
      · have E := Lib.hid (show areB n (layB n P T) k r = decide ((s : Int) = (q : Int)) by rw [E0.out, SN.out]; simp [h5])
        have h5' : (k : Int) ≤ 50 := by omega
        go_wp2_with (go_at_call 75; (with_reducible refine A1.out.mono ?_); rintro e w1 ⟨rfl, rfl⟩)
        go_ret
        rw [E.out]
        exact ⟨rfl, hd.out⟩
      · have E := Lib.hid (show areB n (layB n P T) k r = false by rw [E0.out]; simp [h5])
        have h5' : ¬ (k : Int) ≤ 50 := by omega
        go_wp2_with (go_at_call 75; (with_reducible refine A1.out.mono ?_); rintro e w1 ⟨rfl, rfl⟩)
        go_ret
        rw [E.out]
        exact ⟨rfl, hd.out⟩

theorem iV_cell {f : Nat → Nat} (i : Nat) : iV f i = .int .i64 (f i : Nat) := rfl

set_option maxHeartbeats 1000000 in
theorem once_any (adr : Option Addr) (n cc : Nat) (hn : n ≤ 14) (a : Option Addr) (N c : Nat) (r : Nat → Nat × (Nat → Int)) (w : World) (hN : N ≤ 60) (h60 : ∀ i, i < N → (r i).1 ≤ 60)
    (hit : ∀ i, i < N → ∀ j, j < (r i).1 → ∃ x : Nat, x < n ∧ (r i).2 j = x) (hr : RdT w a N r) :
    Calls Tryd.prog 102 #[.slice adr n cc, .slice a N c] w (RetB (onceB n N r) w) := by
  have HR := Lib.hid hr
  have H6 := Lib.hid h60
  have HX := Lib.hid hit
  have OL := Lib.hid (fun i (hi : i ≤ N) x => show occ r i x ≤ 3600 from by
    have := occ_le (r := r) (m := 60) i (fun k hk => h60 k (by omega)) x
    have h2 : i * 60 ≤ 3600 := by omega
    omega)
  clear hr h60 hit
  obtain ⟨cs, hcs, _, mk0⟩ := made Tryd.underlying23 Tryd.info3 rfl (by omega) n (by omega)
  obtain ⟨bk, hbk⟩ : ∃ bk, bk = w.heap.size := ⟨_, rfl⟩
  have R0 := Lib.hid ((RowG.new (w := w) (e := 3) hbk.symm hcs).congr (V' := iV (occ r 0)) fun i _ => by rfl)
  have G0 := Lib.hid ((Gr.refl w).alloc (.cells cs 3))
  have B0 := Lib.hid (show w.heap.size ≤ bk by omega)
  have NE := Lib.hid (fun (b o : Nat) (v : Value) (h : w.cell? ⟨b, o, none⟩ = some v) => show b ≠ bk from fun e => by have := World.block_lt_of_cell? w _ h; simp at this; omega)
  go_enter Tryd.func102, Tryd.ntmps102
  go_wp2
  rw [← hbk]
  clear hbk mk0 hcs
  go_loopw [6] (fun si wr => ∃ k : Nat, k ≤ N ∧ si = .int .i64 k ∧ Hid (RowG wr bk n (iV (occ r k))) ∧ Hid (Gr w wr)) (fun si _ => N - (intOf si).toNat)
  case atStart => exact ⟨0, Nat.zero_le _, rfl, R0, G0⟩
  case round =>
    obtain ⟨k, hk, rfl, hR, hG⟩ := hrel
    by_cases hlt : k < N
    · have i1 : (k : Int) < (N : Int) := by omega
      have O1 := Lib.hid (OL.out (k + 1) hlt)
      have h6 := H6.out k hlt
      have HK := Lib.hid (HX.out k hlt)
      have OC := Lib.hid (fun x => show occ r k x + occ1 (r k).2 (r k).1 x = occ r (k + 1) x from rfl)
      have OM := Lib.hid (fun x j (hj : j ≤ (r k).1) => occ1_mono (r k).2 hj x)
      go_wp2_with fail
      go_loopw [7] (fun sj wx => ∃ j : Nat, j ≤ (r k).1 ∧ sj = .int .i64 j ∧ Hid (RowG wx bk n (iV fun x => occ r k x + occ1 (r k).2 j x)) ∧ Hid (Gr w wx)) (fun sj _ => (r k).1 - (intOf sj).toNat)
      case atStart => exact ⟨0, Nat.zero_le _, rfl, hR, hG⟩
      case round =>
        clear hR hG
        obtain ⟨j, hj, rfl, hR, hG⟩ := hrel
        obtain ⟨b, o, ai, ci, rfl, hc, l1, l2, l3⟩ := (HR.out.gr hG.out).at hlt
        have L3 := Lib.hid l3
        clear l1 l2 l3
        by_cases hl2 : j < (r k).1
        · obtain ⟨bi, oi, rfl, hc2⟩ := L3.out.at hl2
          obtain ⟨x, hx, ex⟩ := HK.out j hl2
          have cj := hc2 j hl2
          have OJ := Lib.hid (fun y => show (occ r k y + occ1 (r k).2 j y) + (if (x : Int) = (y : Int) then 1 else 0) = occ r k y + occ1 (r k).2 (j + 1) y by rw [occ1, ex]; omega)
          rw [ex] at cj
          obtain ⟨d1, d2⟩ := hR.out x hx
          rw [iV_cell] at d1
          have R2 := Lib.hid ((hR.out.put (j := x) (.int .i64 ((occ r k x + occ1 (r k).2 j x + 1 : Nat) : Int))).congr (V' := iV fun y => occ r k y + occ1 (r k).2 (j + 1) y) fun y _ => by
            show (if y = x then _ else iV _ y) = _
            by_cases e : y = x
            · subst e; rw [if_pos rfl, iV_cell, ← OJ.out y, if_pos rfl]
            · rw [if_neg e, iV_cell, iV_cell, ← OJ.out y, if_neg (by omega)]; rfl)
          have G2 := Lib.hid (hG.out.setAt (b := bk) (j := x) B0.out (.int .i64 ((occ r k x + occ1 (r k).2 j x + 1 : Nat) : Int)))
          have q1 : occ r k x + occ1 (r k).2 j x ≤ 3600 := by have := O1.out x; have := OM.out x j (by omega); have := OC.out x; omega
          have j1 : (j : Int) < ((r k).1 : Int) := by omega
          have j2 : (x : Int) < (n : Int) := by omega
          clear hc2 ex OJ
          generalize occ r k x + occ1 (r k).2 j x = q at d1 R2 G2 q1
          have e1 : IntKind.i64.wrap ((q : Int) + 1) = ((q + 1 : Nat) : Int) := by rw [IntWalk.i64_in _ (by omega)]; omega
          generalize (r k).1 = m at *
          go_wp2_with fail
          go_roundw
          case rel => exact ⟨j + 1, hl2, by go_num, R2, G2⟩
          case measure => simp [intOf]; omega
        · have e2 : j = (r k).1 := by omega
          have R2 := Lib.hid (hR.out.congr (V' := iV (occ r (k + 1))) fun x _ => by rw [iV_cell, iV_cell, e2, OC.out])
          clear hR OC OM HK
          generalize (r k).1 = m at *
          go_wp2_with fail
          go_roundw
          case rel => exact ⟨k + 1, hlt, by go_num, R2, hG⟩
          case measure => simp [intOf]; omega
    · obtain rfl : k = N := by omega
      go_wp2_with fail
      go_loopw [8] (fun si wx => ∃ x : Nat, x ≤ n ∧ si = .int .i64 x ∧ Hid (∀ y, y < x → occ r k y = 1) ∧ wx = wr) (fun si _ => n - (intOf si).toNat)
      case atStart => exact ⟨0, Nat.zero_le _, rfl, fun y hy => by omega, rfl⟩
      case round =>
        obtain ⟨x, hx, rfl, hY, rfl⟩ := hrel
        by_cases hl2 : x < n
        · obtain ⟨d1, d2⟩ := hR.out x hl2
          rw [iV_cell] at d1
          have j1 : (x : Int) < (n : Int) := by omega
          by_cases h1 : occ r k x = 1
          · have Y2 := Lib.hid (show ∀ y, y < x + 1 → occ r k y = 1 from fun y hy => by
              by_cases e : y = x
              · subst e; exact h1
              · exact hY.out y (by omega))
            rw [h1] at d1
            clear h1 d2
            go_wp2_with fail
            go_roundw
            case rel => exact ⟨x + 1, hl2, by go_num, Y2, by trivial⟩
            case measure => simp [intOf]; omega
          · have E := Lib.hid (onceB_false (N := k) (r := r) hl2 h1)
            generalize occ r k x = q at d1 h1
            have h2 : ((q : Int) != 1) = true := by simp; omega
            clear h1 d2
            go_wp2_with fail
            go_ret
            rw [E.out]
            exact ⟨rfl, hG.out⟩
        · obtain rfl : x = n := by omega
          have E := Lib.hid (show onceB x k r = true from by unfold onceB; rw [List.all_eq_true]; intro y hy; simpa using hY.out y (List.mem_range.1 hy))
          go_wp2_with fail
          go_ret
          rw [E.out]
          exact ⟨rfl, hG.out⟩

end Go.Proofs.YthgbnjndljjbgaaDoor
