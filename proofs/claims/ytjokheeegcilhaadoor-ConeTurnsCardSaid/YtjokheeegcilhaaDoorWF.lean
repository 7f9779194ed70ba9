/- Contracts of chapter 2: isChain of the program and of the reference. Contracts of chapter 2: AreThreads of the program and of the reference. -/
import Derived.Test.YtjokheeegcilhaaDoorWE
import Derived.Test.YtjokheeegcilhaaDoorPB
namespace Go.Proofs.YtjokheeegcilhaaDoor
open Go.RowKit Go.Firn

set_option maxHeartbeats 1000000 in
set_option maxRecDepth 20000 in
theorem isChain_any {n p b1 b2 : Nat} {P T : Nat → Int} (hn : n ≤ 14) (a : Option Addr) (m c : Nat) (l : Nat → Int) (w : World) (hm : m ≤ 100) (O : OrdB w p b1 b2 n (pastM n P T) (futM n P T)) (hr : RdI w a m l) :
    Calls Tryd.prog 85 #[.pointer (some ⟨p, 0, none⟩), .slice a m c] w (RetQ (chnB n P T m l) w) := by
  have HO := Lib.hid O
  have HR := Lib.hid hr
  clear O hr
  go_enter Tryd.func85, Tryd.ntmps85
  go_wp2
  go_loopw [9] (fun s wr => ∃ k : Nat, k ≤ m ∧ s = .int .i64 k ∧ Hid (chnK n P T l k = true) ∧ Hid (∃ d, wr = w.drewN d)) (fun s _ => m - (intOf s).toNat)
  case atStart => exact ⟨0, Nat.zero_le _, rfl, chnK_zero n P T l, 0, rfl⟩
  case round =>
    obtain ⟨k, hk, rfl, hK, hd⟩ := hrel
    by_cases hlt : k < m
    · obtain ⟨b, o, rfl, hc⟩ := (rdI_drewN HR.out hd.out).at hlt
      have ck := hc k hlt
      have i1 : (k : Int) < (m : Int) := by omega
      by_cases h1 : inH n (l k) = true
      · have H1 := Lib.hid (show ∀ d, Calls Tryd.prog 67 #[.pointer (some ⟨p, 0, none⟩), .int .i64 (l k)] (wr.drewN d) (fun e w' => e = .returned (.bool true) ∧ w' = wr.drewN d) from fun d => by have := isHit_any hn (l k) (wr.drewN d) (ordB_drewN (ordB_drewN HO.out hd.out) ⟨d, rfl⟩); rw [h1] at this; exact this.mono fun _ _ h => ⟨h.1, h.2.symm⟩)
        obtain ⟨I, hI, eI⟩ := inH_nat h1
        by_cases k0 : 0 < k
        · obtain ⟨J, hJn, eJ⟩ := chnK_hit hK.out (show k - 1 < k by omega)
          have cp := hc (k - 1) (by omega)
          have e1 : (k : Int) - 1 = ((k - 1 : Nat) : Int) := by omega
          have e2 : IntKind.i64.wrap ((k : Int) - 1) = ((k - 1 : Nat) : Int) := by rw [IntWalk.i64_in _ (by omega)]; omega
          have i2 : ((k - 1 : Nat) : Int) < (m : Int) := by omega
          have d1 : decide ((0 : Int) < (k : Int)) = true := by simp; omega
          have A1 := Lib.hid (show chnAt n P T l k = bf P T J I by unfold chnAt; rw [h1, eI, eJ, show decide (k = 0) = false from decide_eq_false (by omega)]; rfl)
          rw [eI] at ck H1
          rw [eJ] at cp
          have O2 := ordB_drewN HO.out hd.out
          have o0 := O2.c0
          have r1 := (O2.r1 I hI).1
          have f1 := pastM_lt (n := n) (P := P) (T := T) hn I
          have PB := Lib.hid (past_bit (n := n) (P := P) (T := T) (i := I) hJn)
          have Q6 := Lib.hid (show pastM n P T I < 65536 by omega)
          have j2 : (I : Int) < (n : Int) := by omega
          clear O2 hc f1 h1 eI eJ
          generalize pastM n P T I = q at r1 PB Q6
          cases hb : bf P T J I with
          | true =>
            have F := Lib.hid (show chnK n P T l (k + 1) = true by rw [chnK_succ, hK.out, A1.out, hb]; rfl)
            have S := Lib.hid (show ∀ w : World, Calls Tryd.prog 68 #[.int .u16 q, .int .i64 J] w (fun e w' => e = .returned (.bool true) ∧ w' = w) from fun w => by have := has_any q J Q6.out (by omega) w; rw [PB.out, hb] at this; exact this.mono fun _ _ h => ⟨h.1, h.2.symm⟩)
            clear hb
            go_wp2_with fail
            go_quiet ((first | (go_at_call 67; with_reducible exact Calls.quiet_of_same (H1.out _)) | (go_at_call 68; with_reducible exact Calls.quiet_of_same (S.out _))))
            go_wp2_with fail
            go_roundw
            case rel => exact ⟨k + 1, hlt, by go_num, F, drewN_more hd.out _⟩
            case measure => simp [intOf]; omega
          | false =>
            have E := Lib.hid (show chnB n P T m l = false from chnB_stop hlt (by rw [A1.out, hb]))
            have S := Lib.hid (show ∀ w : World, Calls Tryd.prog 68 #[.int .u16 q, .int .i64 J] w (fun e w' => e = .returned (.bool false) ∧ w' = w) from fun w => by have := has_any q J Q6.out (by omega) w; rw [PB.out, hb] at this; exact this.mono fun _ _ h => ⟨h.1, h.2.symm⟩)
            clear hb
            go_wp2_with fail
            go_quiet ((first | (go_at_call 67; with_reducible exact Calls.quiet_of_same (H1.out _)) | (go_at_call 68; with_reducible exact Calls.quiet_of_same (S.out _))))
            go_wp2_with fail
            go_ret
            rw [E.out]
            exact ⟨rfl, drewN_more hd.out _⟩
        · have F := Lib.hid (show chnK n P T l (k + 1) = true by rw [chnK_succ, hK.out]; unfold chnAt; rw [h1, show decide (k = 0) = true from decide_eq_true (by omega)]; rfl)
          have d1 : decide ((0 : Int) < (k : Int)) = false := by simp; omega
          clear hc h1 eI
          go_wp2_with fail
          go_quiet ((go_at_call 67; with_reducible exact Calls.quiet_of_same (H1.out _)))
          go_wp2_with fail
          go_roundw
          case rel => exact ⟨k + 1, hlt, by go_num, F, drewN_more hd.out _⟩
          case measure => simp [intOf]; omega
      · have h1' : inH n (l k) = false := by simpa using h1
        have E := Lib.hid (show chnB n P T m l = false from chnB_stop hlt (by unfold chnAt; rw [h1']; rfl))
        have H1 := Lib.hid (show ∀ d, Calls Tryd.prog 67 #[.pointer (some ⟨p, 0, none⟩), .int .i64 (l k)] (wr.drewN d) (fun e w' => e = .returned (.bool false) ∧ w' = wr.drewN d) from fun d => by have := isHit_any hn (l k) (wr.drewN d) (ordB_drewN (ordB_drewN HO.out hd.out) ⟨d, rfl⟩); rw [h1'] at this; exact this.mono fun _ _ h => ⟨h.1, h.2.symm⟩)
        clear h1 h1' hc
        go_wp2_with fail
        go_quiet ((go_at_call 67; with_reducible exact Calls.quiet_of_same (H1.out _)))
        go_wp2_with fail
        go_ret
        rw [E.out]
        exact ⟨rfl, drewN_more hd.out _⟩
    · obtain rfl : k = m := by omega
      have E := Lib.hid (show chnB n P T k l = btw 1 k 50 by
        unfold chnB btw
        rw [hK.out]
        simp only [Bool.true_and]
        congr 1 <;> (congr 1; apply propext; omega))
      go_wp2_with (go_at_call 71; refine (between_any _ _ _ _).mono ?_; rintro e w1 ⟨rfl, rfl⟩)
      go_ret
      rw [E.out]
      exact ⟨rfl, hd.out⟩

set_option maxHeartbeats 1000000 in
set_option maxRecDepth 20000 in
theorem refisChain_any (adr : Option Addr) (n cc : Nat) (P T : Nat → Int) (V : VH n P T) (a : Option Addr) (m c : Nat) (l : Nat → Int) (w : World) (hm : m ≤ 100) (hh : RdM w adr n P T) (hr : RdI w a m l) :
    Calls Tryd.prog 88 #[.slice adr n cc, .slice a m c] w (RetQ (chnB n P T m l) w) := by
  have hn := V.few
  have HV := Lib.hid V
  have HH := Lib.hid hh
  have HR := Lib.hid hr
  clear V hh hr
  go_enter Tryd.func88, Tryd.ntmps88
  go_wp2
  go_loopw [5] (fun s wr => ∃ k : Nat, k ≤ m ∧ k ≤ 51 ∧ s = .int .i64 k ∧ Hid (chnK n P T l k = true) ∧ Hid (∃ d, wr = w.drewN d)) (fun s _ => m - (intOf s).toNat)
  case atStart => exact ⟨0, Nat.zero_le _, by omega, rfl, chnK_zero n P T l, 0, rfl⟩
  case round =>
    obtain ⟨k, hk, hk51, rfl, hK, hd⟩ := hrel
    by_cases hlt : k < m
    · by_cases h51 : k ≤ 50
      · obtain ⟨b, o, rfl, hc⟩ := (rdI_drewN HR.out hd.out).at hlt
        have ck := hc k hlt
        have i1 : (k : Int) < (m : Int) := by omega
        have i5 : (k : Int) ≤ 50 := by omega
        by_cases h1 : inH n (l k) = true
        · have H1 := Lib.hid (show ∀ w : World, Calls Tryd.prog 69 #[.slice adr n cc, .int .i64 (l k)] w (fun e w' => e = .returned (.bool true) ∧ w' = w) from fun w => by have := refisHit_any adr n cc hn (l k) w; rw [h1] at this; exact this.mono fun _ _ h => ⟨h.1, h.2.symm⟩)
          obtain ⟨I, hI, eI⟩ := inH_nat h1
          by_cases k0 : 0 < k
          · obtain ⟨J, hJn, eJ⟩ := chnK_hit hK.out (show k - 1 < k by omega)
            have cp := hc (k - 1) (by omega)
            have e1 : (k : Int) - 1 = ((k - 1 : Nat) : Int) := by omega
            have e2 : IntKind.i64.wrap ((k : Int) - 1) = ((k - 1 : Nat) : Int) := by rw [IntWalk.i64_in _ (by omega)]; omega
            have i2 : ((k - 1 : Nat) : Int) < (m : Int) := by omega
            have d1 : decide ((0 : Int) < (k : Int)) = true := by simp; omega
            have A1 := Lib.hid (show chnAt n P T l k = bf P T J I by unfold chnAt; rw [h1, eI, eJ, show decide (k = 0) = false from decide_eq_false (by omega)]; rfl)
            rw [eI] at ck H1
            rw [eJ] at cp
            have S1 := Lib.hid (show ∀ d, Calls Tryd.prog 60 #[.slice adr n cc, .int .i64 J, .int .i64 I] (wr.drewN d) (RetQ (bf P T J I) (wr.drewN d)) from fun d => before_any adr n cc P T _ HV.out J I hJn hI (RdM.drewN (rdM_drewN HH.out hd.out) d))
            unfold RetQ at S1
            clear hc h1 eI eJ
            cases hb : bf P T J I with
            | true =>
              have F := Lib.hid (show chnK n P T l (k + 1) = true by rw [chnK_succ, hK.out, A1.out, hb]; rfl)
              rw [hb] at S1
              clear hb
              go_wp2_with fail
              go_quiet ((first | (go_at_call 69; with_reducible exact Calls.quiet_of_same (H1.out _)) | (go_at_call 60; with_reducible exact Calls.quiet_of (S1.out _))))
              go_wp2_with fail
              go_roundw
              case rel => exact ⟨k + 1, hlt, by omega, by go_num, F, drewN_more hd.out _⟩
              case measure => simp [intOf]; omega
            | false =>
              have E := Lib.hid (show chnB n P T m l = false from chnB_stop hlt (by rw [A1.out, hb]))
              rw [hb] at S1
              clear hb
              go_wp2_with fail
              go_quiet ((first | (go_at_call 69; with_reducible exact Calls.quiet_of_same (H1.out _)) | (go_at_call 60; with_reducible exact Calls.quiet_of (S1.out _))))
              go_wp2_with fail
              go_ret
              rw [E.out]
              exact ⟨rfl, drewN_more hd.out _⟩
          · have F := Lib.hid (show chnK n P T l (k + 1) = true by rw [chnK_succ, hK.out]; unfold chnAt; rw [h1, show decide (k = 0) = true from decide_eq_true (by omega)]; rfl)
            have d1 : decide ((0 : Int) < (k : Int)) = false := by simp; omega
            clear hc h1 eI
            go_wp2_with fail
            go_quiet ((go_at_call 69; with_reducible exact Calls.quiet_of_same (H1.out _)))
            go_wp2_with fail
            go_roundw
            case rel => exact ⟨k + 1, hlt, by omega, by go_num, F, drewN_more hd.out _⟩
            case measure => simp [intOf]; omega
        · have h1' : inH n (l k) = false := by simpa using h1
          have E := Lib.hid (show chnB n P T m l = false from chnB_stop hlt (by unfold chnAt; rw [h1']; rfl))
          have H1 := Lib.hid (show ∀ w : World, Calls Tryd.prog 69 #[.slice adr n cc, .int .i64 (l k)] w (fun e w' => e = .returned (.bool false) ∧ w' = w) from fun w => by have := refisHit_any adr n cc hn (l k) w; rw [h1'] at this; exact this.mono fun _ _ h => ⟨h.1, h.2.symm⟩)
          clear h1 hc
          go_wp2_with fail
          go_quiet ((go_at_call 69; with_reducible exact Calls.quiet_of_same (H1.out _)))
          go_wp2_with fail
          go_ret
          rw [E.out]
          exact ⟨rfl, drewN_more hd.out _⟩
      · have E := Lib.hid (show chnB n P T m l = false by
          have : decide (m ≤ 50) = false := by simp; omega
          unfold chnB; rw [this]; simp)
        have i1 : (k : Int) < (m : Int) := by omega
        have i5 : ¬ (k : Int) ≤ 50 := by omega
        go_wp2_with fail
        go_ret
        rw [E.out]
        refine ⟨?_, hd.out⟩
        have : decide ((m : Int) ≤ 50) = false := by simp; omega
        rw [← this]
        rfl
    · obtain rfl : k = m := by omega
      have E := Lib.hid (show chnB n P T k l = (decide ((0 : Int) < (k : Int)) && decide ((k : Int) ≤ 50)) by
        unfold chnB
        rw [hK.out]
        simp only [Bool.true_and]
        congr 1 <;> (congr 1; apply propext; omega))
      by_cases p0 : 0 < k
      · have p1 : (0 : Int) < (k : Int) := by omega
        have E2 := Lib.hid (show chnB n P T k l = decide ((k : Int) ≤ 50) by rw [E.out, decide_eq_true p1]; rfl)
        clear E
        go_wp2_with fail
        all_goals go_ret
        all_goals rw [E2.out]
        all_goals exact ⟨rfl, hd.out⟩
      · have p1 : ¬ (0 : Int) < (k : Int) := by omega
        have E2 := Lib.hid (show chnB n P T k l = false by rw [E.out, decide_eq_false p1]; rfl)
        clear E
        go_wp2_with fail
        all_goals go_ret
        all_goals rw [E2.out]
        all_goals exact ⟨rfl, hd.out⟩

end Go.Proofs.YtjokheeegcilhaaDoor

namespace Go.Proofs.YtjokheeegcilhaaDoor
open Go.RowKit Go.Firn

set_option maxHeartbeats 1000000 in
theorem coverC_any {n p b1 b2 : Nat} {P T : Nat → Int} (hn : n ≤ 14) (a : Option Addr) (N c : Nat) (r : Nat → Nat × (Nat → Int)) (w : World) (hN : N ≤ 60) (h60 : ∀ i, i < N → (r i).1 ≤ 60) (O : OrdB w p b1 b2 n (pastM n P T) (futM n P T)) (hr : RdT w a N r) :
    Calls Tryd.prog 82 #[.pointer (some ⟨p, 0, none⟩), .slice a N c, .func (.func 85) #[.pointer (some ⟨p, 0, none⟩)] #[]] w (RetQ (areB n (chnB n P T) N r) w) := by
  have HO := Lib.hid O
  have HR := Lib.hid hr
  have H6 := Lib.hid h60
  have AL := Lib.hid (fun w' (g : ∃ m, w' = w.drewN m) => all_any hn w' (ordB_drewN HO.out g))
  have IL := Lib.hid (fun (ai : Option Addr) (m ci : Nat) (l : Nat → Int) (w' : World) (g : ∃ d, w' = w.drewN d) h1 h3 => isChain_any hn ai m ci l w' h1 (ordB_drewN HO.out g) h3)
  clear O hr h60
  go_enter Tryd.func82, Tryd.ntmps82
  go_wp2
  go_loopw [7, 14] (fun so si wr => ∃ k s : Nat, k ≤ N ∧ so = .int .u16 s ∧ si = .int .i64 k ∧ Hid (kindK (chnB n P T) r k = true) ∧ Hid (Seen n (occ r k) s) ∧ Hid (∃ d, wr = w.drewN d)) (fun _ si _ => N - (intOf si).toNat)
  case atStart => exact ⟨0, 0, Nat.zero_le _, rfl, rfl, kindK_zero _ _, Seen.zero n, 0, rfl⟩
  case round =>
    obtain ⟨k, s, hk, rfl, rfl, hK, hS, hd⟩ := hrel
    by_cases hlt : k < N
    · obtain ⟨b, o, ai, ci, rfl, hc, l1, l2, l3⟩ := (rdT_drewN HR.out hd.out).at hlt
      have i1 : (k : Int) < (N : Int) := by omega
      have C1 := Lib.hid (IL.out ai (r k).1 ci (r k).2 wr hd.out (by have := H6.out k hlt; omega) l3)
      have L3 := Lib.hid l3
      clear l1 l2 l3
      by_cases hb : chnB n P T (r k).1 (r k).2 = true
      · rw [hb] at C1
        have HB := Lib.hid (fun j (hj : j < (r k).1) => chnB_hit hb hj)
        have KS := Lib.hid (show kindK (chnB n P T) r (k + 1) = true by rw [kindK_succ, hK.out, hb]; rfl)
        have TW := Lib.hid (fun j x (hj : j ≤ (r k).1) (hx : x < n) (h : 2 ≤ occ r k x + occ1 (r k).2 j x) => areB_twice (B := chnB n P T) hlt hj hx h)
        have OC := Lib.hid (fun x => show occ r k x + occ1 (r k).2 (r k).1 x = occ r (k + 1) x from rfl)
        have h6 := H6.out k hlt
        clear hb
        generalize (r k).1 = m at *
        generalize (r k).2 = l at *
        go_wp2_with (go_at_call 85; (with_reducible refine C1.out.mono ?_); rintro e w1 ⟨rfl, hd1⟩; have HD := Lib.hid (show ∃ d, w1 = w.drewN d from by obtain ⟨d, rfl⟩ := hd.out; obtain ⟨d', rfl⟩ := hd1; exact drewN_more ⟨d, rfl⟩ _); have L4 := Lib.hid (rdI_drewN L3.out hd1); clear hd1)
        go_loopw [7, 24] (fun so si wx => ∃ j s : Nat, j ≤ m ∧ so = .int .u16 s ∧ si = .int .i64 j ∧ Hid (Seen n (fun x => occ r k x + occ1 l j x) s) ∧ wx = w1) (fun _ si _ => m - (intOf si).toNat)
        case atStart => exact ⟨0, s, Nat.zero_le _, rfl, rfl, hS.out, rfl⟩
        case round =>
          obtain ⟨j, s, hj, rfl, rfl, hS, rfl⟩ := hrel
          by_cases hl2 : j < m
          · obtain ⟨bi, oi, rfl, hc2⟩ := L4.out.at hl2
            obtain ⟨x, hx, ex⟩ := HB.out j hl2
            have cj := hc2 j hl2
            rw [ex] at cj
            have j1 : (j : Int) < (m : Int) := by omega
            have s16 : s < 65536 := by have := hS.out.1; have := pow14 hn; omega
            have OJ := Lib.hid (fun y => show (occ r k y + occ1 l j y) + (if (x : Int) = (y : Int) then 1 else 0) = occ r k y + occ1 l (j + 1) y by rw [occ1, ex]; omega)
            clear hc2 ex
            cases hb : s.testBit x with
            | true =>
              have E := Lib.hid (TW.out (j + 1) x hl2 hx (by have h1 := hS.out.twice hx hb; have h2 := OJ.out x; rw [if_pos rfl] at h2; omega))
              have S1 := Lib.hid (show Calls Tryd.prog 68 #[.int .u16 s, .int .i64 x] wr (fun e w' => e = .returned (.bool true) ∧ wr = w') from by have := has_any s x s16 (by omega) wr; rw [hb] at this; exact this)
              clear hb s16
              go_wp2_with (go_at_call 68; (with_reducible refine S1.out.mono ?_); rintro e w1 ⟨rfl, rfl⟩)
              go_ret
              rw [E.out]
              exact ⟨rfl, HD.out⟩
            | false =>
              have S2 := Lib.hid ((hS.out.add hx hb).congr OJ.out)
              have S1 := Lib.hid (show Calls Tryd.prog 68 #[.int .u16 s, .int .i64 x] wr (fun e w' => e = .returned (.bool false) ∧ wr = w') from by have := has_any s x s16 (by omega) wr; rw [hb] at this; exact this)
              have e10 := shl_u16 (show x ≤ 15 by omega)
              have e11 := orp_u16 (x := s) (a := x) s16 (by omega)
              clear hb s16
              go_wp2_with (go_at_call 68; (with_reducible refine S1.out.mono ?_); rintro e w1 ⟨rfl, rfl⟩)
              go_roundw
              case rel => exact ⟨j + 1, _, hl2, rfl, by go_num, S2, by trivial⟩
              case measure => simp [intOf]; omega
          · obtain rfl : j = m := by omega
            have S2 := Lib.hid (hS.out.congr OC.out)
            go_wp2_with fail
            go_roundw
            case rel => exact ⟨k + 1, s, hlt, rfl, by go_num, KS.out, S2.out, HD.out⟩
            case measure => simp [intOf]; omega
      · have hb' : chnB n P T (r k).1 (r k).2 = false := by simpa using hb
        rw [hb'] at C1
        have E := Lib.hid (show areB n (chnB n P T) N r = false from areB_kind hlt hb')
        clear hb hb'
        generalize (r k).1 = m at *
        go_wp2_with (go_at_call 85; (with_reducible refine C1.out.mono ?_); rintro e w1 ⟨rfl, hd1⟩)
        go_ret
        rw [E.out]
        obtain ⟨d, rfl⟩ := hd.out
        obtain ⟨d', rfl⟩ := hd1
        exact ⟨rfl, drewN_more ⟨d, rfl⟩ _⟩
    · obtain rfl : k = N := by omega
      have A1 := Lib.hid (AL.out wr hd.out)
      have SN := Lib.hid (show decide ((s : Int) = ((2 ^ n - 1 : Nat) : Int)) = decide (s = 2 ^ n - 1) by congr 1; apply propext; omega)
      have E0 := Lib.hid (show areB n (chnB n P T) k r = (decide (k ≤ 50) && decide (s = 2 ^ n - 1)) by rw [areB_done hK.out, hS.out.done])
      generalize 2 ^ n - 1 = q at A1 SN E0
      by_cases h5 : k ≤ 50
      · have E := Lib.hid (show areB n (chnB n P T) k r = decide ((s : Int) = (q : Int)) by rw [E0.out, SN.out]; simp [h5])
        have h5' : (k : Int) ≤ 50 := by omega
        go_wp2_with (go_at_call 75; (with_reducible refine A1.out.mono ?_); rintro e w1 ⟨rfl, rfl⟩)
        go_ret
        rw [E.out]
        exact ⟨rfl, hd.out⟩
      · have E := Lib.hid (show areB n (chnB n P T) k r = false by rw [E0.out]; simp [h5])
        have h5' : ¬ (k : Int) ≤ 50 := by omega
        go_wp2_with (go_at_call 75; (with_reducible refine A1.out.mono ?_); rintro e w1 ⟨rfl, rfl⟩)
        go_ret
        rw [E.out]
        exact ⟨rfl, hd.out⟩

set_option maxHeartbeats 1000000 in
theorem areC_any (adr : Option Addr) (n cc : Nat) (P T : Nat → Int) (V : VH n P T) (a : Option Addr) (N c : Nat) (r : Nat → Nat × (Nat → Int)) (w : World) (hN : N ≤ 60) (h60 : ∀ i, i < N → (r i).1 ≤ 60) (hh : RdM w adr n P T) (hr : RdT w a N r) :
    Calls Tryd.prog 83 #[.slice adr n cc, .slice a N c, .bool false] w (RetB (areB n (chnB n P T) N r) w) := by
  have HR := Lib.hid hr
  have HH := Lib.hid hh
  have HV := Lib.hid V
  have H6 := Lib.hid h60
  clear hr h60 hh V
  by_cases h5 : N ≤ 50
  rotate_left
  · have E := Lib.hid (areB_many (n := n) (B := chnB n P T) (r := r) (show 50 < N by omega))
    have h5' : (50 : Int) < (N : Int) := by omega
    go_enter Tryd.func83, Tryd.ntmps83
    go_wp2_with fail
    go_ret
    rw [E.out]
    exact ⟨rfl, Gr.refl w⟩
  have h5' : ¬ (50 : Int) < (N : Int) := by omega
  go_enter Tryd.func83, Tryd.ntmps83
  go_wp2_with fail
  go_loopw [7] (fun si wr => ∃ k : Nat, k ≤ N ∧ si = .int .i64 k ∧ Hid (kindK (chnB n P T) r k = true) ∧ Hid (∃ d, wr = w.drewN d)) (fun si _ => N - (intOf si).toNat)
  case atStart => exact ⟨0, Nat.zero_le _, rfl, kindK_zero _ _, 0, rfl⟩
  case round =>
    obtain ⟨k, hk, rfl, hK, hd⟩ := hrel
    by_cases hlt : k < N
    · obtain ⟨b, o, ai, ci, rfl, hc, l1, l2, l3⟩ := (rdT_drewN HR.out hd.out).at hlt
      have i1 : (k : Int) < (N : Int) := by omega
      have C1 := Lib.hid (refisChain_any adr n cc P T HV.out ai (r k).1 ci (r k).2 wr (by have := H6.out k hlt; omega) (rdM_drewN HH.out hd.out) l3)
      clear l1 l2 l3
      cases hb : chnB n P T (r k).1 (r k).2 with
      | true =>
        have KS := Lib.hid (show kindK (chnB n P T) r (k + 1) = true by rw [kindK_succ, hK.out, hb]; rfl)
        rw [hb] at C1
        clear hb
        generalize (r k).1 = m at *
        go_wp2_with (go_at_call 88; (with_reducible refine C1.out.mono ?_); rintro e w1 ⟨rfl, hd1⟩; have HD := Lib.hid (show ∃ d, w1 = w.drewN d from by obtain ⟨d, rfl⟩ := hd.out; obtain ⟨d', rfl⟩ := hd1; exact drewN_more ⟨d, rfl⟩ _); clear hd1)
        go_roundw
        case rel => exact ⟨k + 1, hlt, by go_num, KS, HD⟩
        case measure => simp [intOf]; omega
      | false =>
        have E := Lib.hid (show areB n (chnB n P T) N r = false from areB_kind hlt hb)
        rw [hb] at C1
        clear hb
        generalize (r k).1 = m at *
        go_wp2_with (go_at_call 88; (with_reducible refine C1.out.mono ?_); rintro e w1 ⟨rfl, hd1⟩; have HD := Lib.hid (show Gr w w1 from by obtain ⟨d, rfl⟩ := hd.out; obtain ⟨d', rfl⟩ := hd1; exact ((Gr.refl w).drewN _).drewN _); clear hd1)
        go_ret
        rw [E.out]
        exact ⟨rfl, HD.out⟩
    · obtain rfl : k = N := by omega
      have E := Lib.hid (areB_all (n := n) h5 hK.out)
      have G1 := Lib.hid (show Gr w wr from by obtain ⟨d, rfl⟩ := hd.out; exact (Gr.refl w).drewN _)
      have C1 := Lib.hid (once_any adr n cc HV.out.few a k c r wr hN H6.out (fun i hi j hj => chnB_hit (kindK_at hK.out hi) hj) (HR.out.gr G1.out))
      go_wp2_with (go_at_call 102; (with_reducible refine C1.out.mono ?_); rintro e w1 ⟨rfl, g1⟩)
      go_ret
      rw [E.out]
      exact ⟨rfl, G1.out.trans g1⟩

theorem refAreThreads_any (adr : Option Addr) (n cc : Nat) (P T : Nat → Int) (a : Option Addr) (N c : Nat) (r : Nat → Nat × (Nat → Int)) (w : World) (hn : n ≤ 1000) (hN : N ≤ 60) (h60 : ∀ i, i < N → (r i).1 ≤ 60) (hh : RdM w adr n P T) (hr : RdT w a N r) :
    Calls Tryd.prog 43 #[.slice adr n cc, .slice a N c] w (RetBE (areG n P T (chnB n P T) N r) (errH n P T) w) := by
  have HH := Lib.hid hh
  have HR := Lib.hid hr
  have H6 := Lib.hid h60
  clear hh hr h60
  cases hv : vH n P T with
  | true =>
    have HV := Lib.hid (vH_iff.1 hv)
    have EV := Lib.hid hv
    have e1 := Lib.hid (show areG n P T (chnB n P T) N r = areB n (chnB n P T) N r by unfold areG; rw [hv]; rfl)
    have e2 := Lib.hid (show errH n P T = 0 by unfold errH; rw [if_pos hv])
    rw [e1.out, e2.out]
    clear hv
    go_enter Tryd.func43, Tryd.ntmps43
    go_wp2_with (first
      | (go_at_call 27; refine (refValid_any adr n cc P T _ hn HH.out).mono ?_; rintro e w1 h1; obtain ⟨rfl, g1⟩ := h1.gr; clear h1; rw [EV.out])
      | (go_at_call 83; refine (areC_any adr n cc P T HV.out a N c r _ hN H6.out (HH.out.gr g1) (HR.out.gr g1)).mono ?_; rintro e w2 ⟨rfl, g2⟩))
    go_ret2
    exact ⟨rfl, g1.trans g2⟩
  | false =>
    have HV := Lib.hid hv
    have e1 := Lib.hid (show areG n P T (chnB n P T) N r = false by unfold areG; rw [hv]; rfl)
    have e2 := Lib.hid (show errH n P T = 20 by unfold errH; rw [hv]; rfl)
    rw [e1.out, e2.out]
    clear hv
    go_enter Tryd.func43, Tryd.ntmps43
    go_wp2_with (go_at_call 27; refine (refValid_any adr n cc P T _ hn HH.out).mono ?_; rintro e w1 h1; obtain ⟨rfl, g1⟩ := h1.gr; clear h1; rw [HV.out])
    go_ret2
    exact ⟨rfl, g1⟩

theorem AreThreads_any (adr : Option Addr) (n cc : Nat) (P T : Nat → Int) (a : Option Addr) (N c : Nat) (r : Nat → Nat × (Nat → Int)) (w : World) (hn : n ≤ 1000) (hw : WfH n P T) (hN : N ≤ 60) (h60 : ∀ i, i < N → (r i).1 ≤ 60) (hh : RdM w adr n P T) (hr : RdT w a N r) :
    Calls Tryd.prog 42 #[.slice adr n cc, .slice a N c] w (RetBE (areG n P T (chnB n P T) N r) (errH n P T) w) := by
  have hmf : ∀ (fn : Fn) (first cap : Array Value) (w : World), (Instr.makeFunc fn first cap).run Tryd.prog w = .ok (.func fn first cap) w := fun _ _ _ _ => rfl
  have HW := Lib.hid hw
  have HH := Lib.hid hh
  have HR := Lib.hid hr
  have H6 := Lib.hid h60
  have cb := Lib.hid ((Gr.refl (w.alloc (.cells #[.slice a N c] 43))).fresh' (b := w.heap.size) (j := 0) (v := .slice a N c) rfl rfl).1
  have G0 := Lib.hid ((Gr.refl w).alloc (.cells #[.slice a N c] 43))
  clear hw hh hr h60
  cases hv : vH n P T with
  | true =>
    have HV := Lib.hid (vH_iff.1 hv)
    have e1 := Lib.hid (show areG n P T (chnB n P T) N r = areB n (chnB n P T) N r by unfold areG; rw [hv]; rfl)
    have e2 := Lib.hid (show errH n P T = 0 by unfold errH; rw [if_pos hv])
    rw [e1.out, e2.out]
    clear hv
    go_enter Tryd.func42, Tryd.ntmps42
    go_wp2_with (first
      | (go_at_call 66; refine (open_any adr n cc P T _ HV.out HW.out (HH.out.gr G0.out)).mono ?_; rintro e w1 ⟨p, b1, b2, rfl, O, g1, l1⟩; have c1 := g1.cell cb.out; have HO := Lib.hid O; clear O)
      | (go_at_call 82; refine (coverC_any HV.out.few a N c r _ hN H6.out HO.out (HR.out.gr (G0.out.trans g1))).mono ?_; rintro e w2 h2; obtain ⟨rfl, g2⟩ := h2.gr; clear h2)
      | go_in)
    go_ret2
    exact ⟨rfl, (G0.out.trans g1).trans g2⟩
  | false =>
    have HV := Lib.hid hv
    have e1 := Lib.hid (show areG n P T (chnB n P T) N r = false by unfold areG; rw [hv]; rfl)
    have e2 := Lib.hid (show errH n P T = 20 by unfold errH; rw [hv]; rfl)
    rw [e1.out, e2.out]
    clear hv
    go_enter Tryd.func42, Tryd.ntmps42
    go_wp2_with (first
      | (go_at_call 66; refine (open_bad adr n cc P T _ hn HV.out HW.out (HH.out.gr G0.out)).mono ?_; rintro e w1 ⟨rfl, g1⟩)
      | go_in)
    go_ret2
    exact ⟨rfl, G0.out.trans g1⟩

end Go.Proofs.YtjokheeegcilhaaDoor
