/- Proved: TrackCosts returns true at all arguments, which read afterwards as before. Conditions: none. -/
import Derived.Test.YtbhndfnfohoidaaW38
import Derived.Test.YtbhndfnfohoidaaW32
import Derived.Test.YtbhndfnfohoidaaW28
import Derived.Test.YtbhndfnfohoidaaW21
import Derived.Test.YtbhndfnfohoidaaW24
import Derived.Test.YtbhndfnfohoidaaP8
import Derived.ProofKit
import Derived.OpenShut
import Derived.ShutString
import Derived.ChangeOld
import Derived.Below
namespace Go.Proofs.Ytbhndfnfohoidaa.trackCosts
open Go.ChangeShapes Go.WideShapes Go.ChangeAt Go.RowKit Go.Firn
open Go.ChangeMaps (open_string shut_string)

theorem own : ownKnob Try.prog.godebug = none := by kernel_rfl
theorem laidOut : laidOutB Try.prog = true := by kernel_rfl

set_option maxHeartbeats 4000000 in
set_option maxRecDepth 100000 in
theorem walk (a : Option Addr) (n c : Nat) (X Y : Nat → Int) (A B D : Int) (a2 : Option Addr) (nw c2 : Nat) (U : Nat → Int) (m : Int) (N E : Int) (w : World) (hn : n ≤ 9223372036854775807) (hr : RdM w a n X Y) (hnw : nw ≤ 9223372036854775807) (hl : RdI w a2 nw U) :
    Calls Try.prog 11 #[.slice a n c, .agg #[.int .i64 A, .int .i64 B, .int .i64 D], .slice a2 nw c2, .int .i64 m, .agg #[.int .i64 N, .int .i64 E]] w (RetB true w) := by
  have HL := Lib.hid (fun w1 => Long_any a n c w1 hn)
  obtain ⟨W0, hW0⟩ : ∃ W0, (w.alloc (.cells #[.int .i64 A, .int .i64 B, .int .i64 D] 37)).alloc (.cells #[.int .i64 N, .int .i64 E] 27) = W0 := ⟨_, rfl⟩
  have G0 := Lib.hid (show Gr w W0 by rw [← hW0]; exact ((Gr.refl w).alloc _).alloc _)
  have BX := Lib.hid (show Box3 W0 w.heap.size A B D by rw [← hW0]; exact (Box3.new rfl).gr ((Gr.refl _).alloc _))
  have BY := Lib.hid (show Box2 W0 (w.heap.size + 1) N E by rw [← hW0]; exact Box2.new (by simp))
  by_cases h1 : 60 < n
  · have e1 : decide (60 < n) = true := by simpa using h1
    rw [e1] at HL
    clear e1
    go_enter Try.func11, Try.ntmps11
    go_wp2_with (first
      | (go_at_call 15; refine (HL.out _).mono ?_; rintro e w' ⟨rfl, rfl⟩)
      | (go_at_call 16; refine (Awake_any _).mono ?_; rintro e w6 ⟨rfl, hg11⟩))
    go_ret
    exact ⟨rfl, G0.out.trans hg11⟩
  have e1 : decide (60 < n) = false := by simpa using h1
  rw [e1] at HL
  by_cases h2 : 60 < nw
  · have d2 : (60 : Int) < nw := by omega
    clear e1 h2 h1
    go_enter Try.func11, Try.ntmps11
    go_wp2_with (first
      | (go_at_call 15; refine (HL.out _).mono ?_; rintro e w' ⟨rfl, rfl⟩)
      | (go_at_call 16; refine (Awake_any _).mono ?_; rintro e w6 ⟨rfl, hg11⟩))
    go_ret
    exact ⟨rfl, G0.out.trans hg11⟩
  have d2 : ¬ (60 : Int) < nw := by omega
  have n60 : n ≤ 1000 := by omega
  have CV := Lib.hid (fun w1 (g : Gr w w1) => refValid_any a n c X Y w1 n60 (hr.gr g))
  cases hv : vP n X Y with
  | false =>
    rw [hv] at CV
    clear e1 h2 h1 hr hl hv hn hnw
    go_enter Try.func11, Try.ntmps11
    go_wp2_with (first
      | (go_at_call 15; refine (HL.out _).mono ?_; rintro e w' ⟨rfl, rfl⟩)
      | (go_at_call 29; refine (CV.out _ G0.out).mono ?_; rintro e w1 ⟨rfl, g1⟩; have G1 := Lib.hid (G0.out.trans g1); clear g1)
      | (go_at_call 16; refine (Awake_any _).mono ?_; rintro e w6 ⟨rfl, hg11⟩))
    go_ret
    exact ⟨rfl, G1.out.trans hg11⟩
  | true =>
  rw [hv] at CV
  have V := vP_iff.1 hv
  obtain ⟨q, hq, hp⟩ := bst_some V
  have pb := pr_bd V.few V.ok hp
  have ps := least_small V hq
  have C19 := Lib.hid (show ∀ w1, Gr w w1 → Calls Try.prog 19 #[.slice a n c] w1 (RetRE (pN n X Y q) (pE n X Y q) 0 w1) from fun w1 g => by
    have h := Least_any a n c X Y w1 n60 (hr.gr g)
    have e1 : leN n X Y = pN n X Y q := by unfold leN; rw [hv, hq]; rfl
    have e2 : leD n X Y = pE n X Y q := by unfold leD; rw [hv, hq]; rfl
    rw [e1, e2, leE_ok V] at h
    exact h)
  have C39 := Lib.hid (show ∀ w1, Gr w w1 → Calls Try.prog 39 #[.slice a n c] w1 (RetLE (pA X Y q) (pB X Y q) (pD X Y q) 0 w1) from fun w1 g => by
    have h := Line_any a n c X Y w1 n60 (hr.gr g)
    rw [leE_ok V, hq] at h
    exact h)
  have C43 := Lib.hid (fun w1 (g : Gr w w1) => Weights_any a n c X Y V q hq w1 (hr.gr g))
  have C33 := Lib.hid (show ∀ w1, Gr w w1 → Calls Try.prog 33 #[.slice a n c, .agg #[.int .i64 (pA X Y q), .int .i64 (pB X Y q), .int .i64 (pD X Y q)]] w1 (RetRE (pN n X Y q) (pE n X Y q) 0 w1) from fun w1 g => by
    have h := Cost_any a n c X Y (pA X Y q) (pB X Y q) (pD X Y q) w1 n60 (hr.gr g)
    rw [asE_pair V hp] at h
    exact h)
  have C41 := Lib.hid (show ∀ w1, Gr w w1 → ∀ bw cw m' W', Good n X (fun j => rs (X j) (Y j) (pA X Y q) (pB X Y q) (pD X Y q)) W' m' → RdI w1 (some ⟨bw, 0, none⟩) n W' →
      Calls Try.prog 41 #[.slice a n c, .slice (some ⟨bw, 0, none⟩) n cw, .int .i64 m', .agg #[.int .i64 (pN n X Y q), .int .i64 (pE n X Y q)]] w1 (fun e w' => e = .returned (.tuple #[.bool true, .int .i64 0]) ∧ Gr w1 w') from fun w1 g bw cw m' W' gd rd => by
    have h := Proves_any a n c X Y (some ⟨bw, 0, none⟩) n cw W' m' (pN n X Y q) (pE n X Y q) w1 n60 n60 (hr.gr g) rd
    obtain ⟨p1, p2⟩ := good_proves V hq gd
    rw [p1, p2] at h
    exact h)
  have CX := Lib.hid (fun w1 (g : Gr w w1) => Cost_any a n c X Y A B D w1 n60 (hr.gr g))
  have CP := Lib.hid (fun w1 (g : Gr w w1) => Proves_any a n c X Y a2 nw c2 U m N E w1 n60 (by omega) (hr.gr g) (hl.gr g))
  have L3 := Lib.hid (show asE n X Y A B D = 0 → ∀ w', Calls Try.prog 46 #[.agg #[.int .i64 (rN (sumA X Y A B D n) D), .int .i64 (rD (sumA X Y A B D n) D)], .agg #[.int .i64 (pN n X Y q), .int .i64 (pE n X Y q)]] w' (RetB false w') from fun hE w' => by
    have IL := (asE_ok hE).2
    have hD : 0 < D := by have := IL.2.2.1; omega
    have mb := sumA_bd V.ok IL (Nat.le_refl n)
    have nl := V.few
    have r1 := rN_nonneg (d := D) mb.1
    have r2 := rN_le (d := D) mb.1
    have r3 := rD_pos (sumA X Y A B D n) hD
    have r4 := rD_le (sumA X Y A B D n) hD
    have D2 := IL.2.2.2
    have k1 := mul_bd (a := rN (sumA X Y A B D n) D) (b := pE n X Y q) (A := 2520000000) (B := 200) (by omega) (by omega) (by omega) (by omega)
    have k2 := mul_bd (a := pN n X Y q) (b := rD (sumA X Y A B D n) D) (A := 2400000) (B := 10000) (by omega) (by omega) (by omega) (by omega)
    have h := refLess_any (rN (sumA X Y A B D n) D) (rD (sumA X Y A B D n) D) (pN n X Y q) (pE n X Y q) w' (by unfold Sz; omega) (by unfold Sz; omega)
    rw [decide_eq_false (no_less V hq hD)] at h
    exact h)
  have WE : asE n X Y A B D = 0 ∨ asE n X Y A B D ≠ 0 := by omega
  have PE3 : (pvB n nw X Y U m N E = false ∧ pvE n nw X Y U m N E = 0) ∨ (pvB n nw X Y U m N E = false ∧ pvE n nw X Y U m N E = 2) ∨ (pvB n nw X Y U m N E = true ∧ pvE n nw X Y U m N E = 0) := by
    unfold pvB pvE
    rw [hv]
    cases argB n nw U m N E <;> cases prvB n X Y U m N E <;> simp
  have L4 := Lib.hid (show pvB n nw X Y U m N E = true → ∀ w', Calls Try.prog 46 #[.agg #[.int .i64 (pN n X Y q), .int .i64 (pE n X Y q)], .agg #[.int .i64 N, .int .i64 E]] w' (RetB false w') from fun hB w' => by
    unfold pvB at hB
    rw [Bool.and_eq_true, Bool.and_eq_true] at hB
    obtain ⟨⟨_, ha⟩, hp'⟩ := hB
    obtain ⟨_, _, _, hE, n0, n1⟩ := argB_at ha
    have k1 := mul_bd (a := pN n X Y q) (b := E) (A := 2400000) (B := 10000) (by omega) (by omega) (by omega) (by omega)
    have k2 := mul_bd (a := N) (b := pE n X Y q) (A := 1000000000) (B := 200) (by omega) (by omega) (by omega) (by omega)
    have h := refLess_any (pN n X Y q) (pE n X Y q) N E w' (by unfold Sz; omega) (by unfold Sz; omega)
    rw [decide_eq_false (weak_least V hq ha hp')] at h
    exact h)
  have OK0 := Lib.hid (show ∀ x, okN 0 x = x from fun x => rfl)
  clear e1 hr h1 h2 hn hnw hl hv V hp hq
  generalize (fun j => rs (X j) (Y j) (pA X Y q) (pB X Y q) (pD X Y q)) = r0 at *
  generalize pvB n nw X Y U m N E = vb at *
  generalize pvE n nw X Y U m N E = ve at *
  generalize asE n X Y A B D = oe at *
  generalize pN n X Y q = cN at *
  generalize pE n X Y q = cD at *
  generalize pA X Y q = lA at *
  generalize pB X Y q = lB at *
  generalize pD X Y q = lD at *
  generalize rN (sumA X Y A B D n) D = sN at *
  generalize rD (sumA X Y A B D n) D = sD at *
  have p1 : 1 ≤ cD := by omega
  have p2 : cD ≤ 10000 := by omega
  have p3 : 0 ≤ cN := by omega
  have p4 : cN ≤ 1000000000 := by omega
  clear pb ps
  rcases WE with he | he
  · subst he
    have L3z := Lib.hid (L3.out rfl)
    clear L3
    rw [OK0.out, OK0.out] at CX
    rcases PE3 with ⟨rfl, rfl⟩ | ⟨rfl, rfl⟩ | ⟨rfl, rfl⟩
    · clear L4
      go_enter Try.func11, Try.ntmps11
      go_wp2_with (first
        | (go_at_call 15; refine (HL.out _).mono ?_; rintro e w' ⟨rfl, rfl⟩)
        | (go_at_call 29; (with_reducible refine (CV.out _ G0.out).mono ?_); rintro e w1 ⟨rfl, g1⟩; have G1 := Lib.hid (G0.out.trans g1); have BX := Lib.hid (BX.out.gr g1); have BY := Lib.hid (BY.out.gr g1); clear g1)
        | (go_at_call 19; (with_reducible refine (C19.out _ G1.out).mono ?_); rintro e w2 ⟨rfl, g2⟩; have g2' := g2.alloc (.cells #[.int .i64 cN, .int .i64 cD] 27); have G2 := Lib.hid (G1.out.trans g2'); have BX := Lib.hid (BX.out.gr g2'); have BY := Lib.hid (BY.out.gr g2'); have BL := Lib.hid (show Box2 (w2.alloc (.cells #[.int .i64 cN, .int .i64 cD] 27)) w2.heap.size cN cD from Box2.new rfl); clear g2 g2')
        | (go_at_call 39; (with_reducible refine (C39.out _ G2.out).mono ?_); rintro e w3 ⟨rfl, g3⟩; have g3' := g3.alloc (.cells #[.int .i64 lA, .int .i64 lB, .int .i64 lD] 37); have G3 := Lib.hid (G2.out.trans g3'); have BX := Lib.hid (BX.out.gr g3'); have BY := Lib.hid (BY.out.gr g3'); have BL := Lib.hid (BL.out.gr g3'); have BM := Lib.hid (show Box3 (w3.alloc (.cells #[.int .i64 lA, .int .i64 lB, .int .i64 lD] 37)) w3.heap.size lA lB lD from Box3.new rfl); clear g3 g3')
        | (go_at_call 43; (with_reducible refine (C43.out _ G3.out).mono ?_); rintro e w4 ⟨bw, cw, m', W', rfl, c1, c2', gd, rd, g4⟩; have GD := Lib.hid gd; have RD := Lib.hid rd; clear gd rd; have G4 := Lib.hid (G3.out.trans g4); have BX := Lib.hid (BX.out.gr g4); have BY := Lib.hid (BY.out.gr g4); have BL := Lib.hid (BL.out.gr g4); have BM := Lib.hid (BM.out.gr g4); obtain ⟨bl0, bl1, _, _⟩ := BL.out; obtain ⟨bm0, bm1, bm2, _, _, _⟩ := BM.out; clear g4)
        | (go_at_call 33; (with_reducible refine (C33.out _ G4.out).mono ?_); rintro e w5 ⟨rfl, g5⟩; have g5' := g5.alloc (.cells #[.int .i64 cN, .int .i64 cD] 27); have G5 := Lib.hid (G4.out.trans g5'); have BX := Lib.hid (BX.out.gr g5'); have BY := Lib.hid (BY.out.gr g5'); have BL := Lib.hid (BL.out.gr g5'); have BM := Lib.hid (BM.out.gr g5'); have RD := Lib.hid (RD.out.gr g5'); have BS := Lib.hid (show Box2 (w5.alloc (.cells #[.int .i64 cN, .int .i64 cD] 27)) w5.heap.size cN cD from Box2.new rfl); obtain ⟨bl0, bl1, _, _⟩ := BL.out; clear g5 g5')
        | (go_at_call 41; (with_reducible refine (C41.out _ G5.out bw cw m' W' GD.out RD.out).mono ?_); rintro e w6 ⟨rfl, g6⟩; have G6 := Lib.hid (G5.out.trans g6); have BX := Lib.hid (BX.out.gr g6); have BY := Lib.hid (BY.out.gr g6); have BL := Lib.hid (BL.out.gr g6); have BM := Lib.hid (BM.out.gr g6); have RD := Lib.hid (RD.out.gr g6); have BS := Lib.hid (BS.out.gr g6); obtain ⟨bl0, bl1, _, _⟩ := BL.out; obtain ⟨bs0, bs1, _, _⟩ := BS.out; obtain ⟨bx0, bx1, bx2, _, _, _⟩ := BX.out; clear g6)
        | (go_at_call 33; (with_reducible refine (CX.out _ G6.out).mono ?_); rintro e w7 ⟨rfl, g7⟩; have g7' := g7.alloc (.cells #[.int .i64 sN, .int .i64 sD] 27); have G7 := Lib.hid (G6.out.trans g7'); have BX := Lib.hid (BX.out.gr g7'); have BY := Lib.hid (BY.out.gr g7'); have BL := Lib.hid (BL.out.gr g7'); have BM := Lib.hid (BM.out.gr g7'); have RD := Lib.hid (RD.out.gr g7'); have BS := Lib.hid (BS.out.gr g7'); have BO := Lib.hid (show Box2 (w7.alloc (.cells #[.int .i64 sN, .int .i64 sD] 27)) w7.heap.size sN sD from Box2.new rfl); obtain ⟨bl0, bl1, _, _⟩ := BL.out; obtain ⟨bo0, bo1, _, _⟩ := BO.out; obtain ⟨by0, by1, _, _⟩ := BY.out; clear g7 g7')
        | (go_at_call 46; (with_reducible refine (L3z.out _).mono ?_); rintro e w8 ⟨rfl, g8⟩; have G8 := Lib.hid (G7.out.trans g8); have BX := Lib.hid (BX.out.gr g8); have BY := Lib.hid (BY.out.gr g8); have BL := Lib.hid (BL.out.gr g8); have BM := Lib.hid (BM.out.gr g8); have RD := Lib.hid (RD.out.gr g8); have BS := Lib.hid (BS.out.gr g8); have BO := Lib.hid (BO.out.gr g8); obtain ⟨bl0, bl1, _, _⟩ := BL.out; obtain ⟨by0, by1, _, _⟩ := BY.out; clear g8)
        | (go_at_call 41; (with_reducible refine (CP.out _ G8.out).mono ?_); rintro e w9 ⟨rfl, g9⟩; have G9 := Lib.hid (G8.out.trans g9); have BX := Lib.hid (BX.out.gr g9); have BY := Lib.hid (BY.out.gr g9); have BL := Lib.hid (BL.out.gr g9); have BM := Lib.hid (BM.out.gr g9); have RD := Lib.hid (RD.out.gr g9); have BS := Lib.hid (BS.out.gr g9); have BO := Lib.hid (BO.out.gr g9); obtain ⟨bl0, bl1, _, _⟩ := BL.out; obtain ⟨by0, by1, _, _⟩ := BY.out; clear g9)
        | (go_at_call 16; refine (Awake_any _).mono ?_; rintro e w6 ⟨rfl, hg11⟩))
      go_ret
      exact ⟨rfl, G9.out.trans hg11⟩
    · clear L4
      go_enter Try.func11, Try.ntmps11
      go_wp2_with (first
        | (go_at_call 15; refine (HL.out _).mono ?_; rintro e w' ⟨rfl, rfl⟩)
        | (go_at_call 29; (with_reducible refine (CV.out _ G0.out).mono ?_); rintro e w1 ⟨rfl, g1⟩; have G1 := Lib.hid (G0.out.trans g1); have BX := Lib.hid (BX.out.gr g1); have BY := Lib.hid (BY.out.gr g1); clear g1)
        | (go_at_call 19; (with_reducible refine (C19.out _ G1.out).mono ?_); rintro e w2 ⟨rfl, g2⟩; have g2' := g2.alloc (.cells #[.int .i64 cN, .int .i64 cD] 27); have G2 := Lib.hid (G1.out.trans g2'); have BX := Lib.hid (BX.out.gr g2'); have BY := Lib.hid (BY.out.gr g2'); have BL := Lib.hid (show Box2 (w2.alloc (.cells #[.int .i64 cN, .int .i64 cD] 27)) w2.heap.size cN cD from Box2.new rfl); clear g2 g2')
        | (go_at_call 39; (with_reducible refine (C39.out _ G2.out).mono ?_); rintro e w3 ⟨rfl, g3⟩; have g3' := g3.alloc (.cells #[.int .i64 lA, .int .i64 lB, .int .i64 lD] 37); have G3 := Lib.hid (G2.out.trans g3'); have BX := Lib.hid (BX.out.gr g3'); have BY := Lib.hid (BY.out.gr g3'); have BL := Lib.hid (BL.out.gr g3'); have BM := Lib.hid (show Box3 (w3.alloc (.cells #[.int .i64 lA, .int .i64 lB, .int .i64 lD] 37)) w3.heap.size lA lB lD from Box3.new rfl); clear g3 g3')
        | (go_at_call 43; (with_reducible refine (C43.out _ G3.out).mono ?_); rintro e w4 ⟨bw, cw, m', W', rfl, c1, c2', gd, rd, g4⟩; have GD := Lib.hid gd; have RD := Lib.hid rd; clear gd rd; have G4 := Lib.hid (G3.out.trans g4); have BX := Lib.hid (BX.out.gr g4); have BY := Lib.hid (BY.out.gr g4); have BL := Lib.hid (BL.out.gr g4); have BM := Lib.hid (BM.out.gr g4); obtain ⟨bl0, bl1, _, _⟩ := BL.out; obtain ⟨bm0, bm1, bm2, _, _, _⟩ := BM.out; clear g4)
        | (go_at_call 33; (with_reducible refine (C33.out _ G4.out).mono ?_); rintro e w5 ⟨rfl, g5⟩; have g5' := g5.alloc (.cells #[.int .i64 cN, .int .i64 cD] 27); have G5 := Lib.hid (G4.out.trans g5'); have BX := Lib.hid (BX.out.gr g5'); have BY := Lib.hid (BY.out.gr g5'); have BL := Lib.hid (BL.out.gr g5'); have BM := Lib.hid (BM.out.gr g5'); have RD := Lib.hid (RD.out.gr g5'); have BS := Lib.hid (show Box2 (w5.alloc (.cells #[.int .i64 cN, .int .i64 cD] 27)) w5.heap.size cN cD from Box2.new rfl); obtain ⟨bl0, bl1, _, _⟩ := BL.out; clear g5 g5')
        | (go_at_call 41; (with_reducible refine (C41.out _ G5.out bw cw m' W' GD.out RD.out).mono ?_); rintro e w6 ⟨rfl, g6⟩; have G6 := Lib.hid (G5.out.trans g6); have BX := Lib.hid (BX.out.gr g6); have BY := Lib.hid (BY.out.gr g6); have BL := Lib.hid (BL.out.gr g6); have BM := Lib.hid (BM.out.gr g6); have RD := Lib.hid (RD.out.gr g6); have BS := Lib.hid (BS.out.gr g6); obtain ⟨bl0, bl1, _, _⟩ := BL.out; obtain ⟨bs0, bs1, _, _⟩ := BS.out; obtain ⟨bx0, bx1, bx2, _, _, _⟩ := BX.out; clear g6)
        | (go_at_call 33; (with_reducible refine (CX.out _ G6.out).mono ?_); rintro e w7 ⟨rfl, g7⟩; have g7' := g7.alloc (.cells #[.int .i64 sN, .int .i64 sD] 27); have G7 := Lib.hid (G6.out.trans g7'); have BX := Lib.hid (BX.out.gr g7'); have BY := Lib.hid (BY.out.gr g7'); have BL := Lib.hid (BL.out.gr g7'); have BM := Lib.hid (BM.out.gr g7'); have RD := Lib.hid (RD.out.gr g7'); have BS := Lib.hid (BS.out.gr g7'); have BO := Lib.hid (show Box2 (w7.alloc (.cells #[.int .i64 sN, .int .i64 sD] 27)) w7.heap.size sN sD from Box2.new rfl); obtain ⟨bl0, bl1, _, _⟩ := BL.out; obtain ⟨bo0, bo1, _, _⟩ := BO.out; obtain ⟨by0, by1, _, _⟩ := BY.out; clear g7 g7')
        | (go_at_call 46; (with_reducible refine (L3z.out _).mono ?_); rintro e w8 ⟨rfl, g8⟩; have G8 := Lib.hid (G7.out.trans g8); have BX := Lib.hid (BX.out.gr g8); have BY := Lib.hid (BY.out.gr g8); have BL := Lib.hid (BL.out.gr g8); have BM := Lib.hid (BM.out.gr g8); have RD := Lib.hid (RD.out.gr g8); have BS := Lib.hid (BS.out.gr g8); have BO := Lib.hid (BO.out.gr g8); obtain ⟨bl0, bl1, _, _⟩ := BL.out; obtain ⟨by0, by1, _, _⟩ := BY.out; clear g8)
        | (go_at_call 41; (with_reducible refine (CP.out _ G8.out).mono ?_); rintro e w9 ⟨rfl, g9⟩; have G9 := Lib.hid (G8.out.trans g9); have BX := Lib.hid (BX.out.gr g9); have BY := Lib.hid (BY.out.gr g9); have BL := Lib.hid (BL.out.gr g9); have BM := Lib.hid (BM.out.gr g9); have RD := Lib.hid (RD.out.gr g9); have BS := Lib.hid (BS.out.gr g9); have BO := Lib.hid (BO.out.gr g9); obtain ⟨bl0, bl1, _, _⟩ := BL.out; obtain ⟨by0, by1, _, _⟩ := BY.out; clear g9)
        | (go_at_call 16; refine (Awake_any _).mono ?_; rintro e w6 ⟨rfl, hg11⟩))
      go_ret
      exact ⟨rfl, G9.out.trans hg11⟩
    · have L4z := Lib.hid (L4.out rfl)
      clear L4
      go_enter Try.func11, Try.ntmps11
      go_wp2_with (first
        | (go_at_call 15; refine (HL.out _).mono ?_; rintro e w' ⟨rfl, rfl⟩)
        | (go_at_call 29; (with_reducible refine (CV.out _ G0.out).mono ?_); rintro e w1 ⟨rfl, g1⟩; have G1 := Lib.hid (G0.out.trans g1); have BX := Lib.hid (BX.out.gr g1); have BY := Lib.hid (BY.out.gr g1); clear g1)
        | (go_at_call 19; (with_reducible refine (C19.out _ G1.out).mono ?_); rintro e w2 ⟨rfl, g2⟩; have g2' := g2.alloc (.cells #[.int .i64 cN, .int .i64 cD] 27); have G2 := Lib.hid (G1.out.trans g2'); have BX := Lib.hid (BX.out.gr g2'); have BY := Lib.hid (BY.out.gr g2'); have BL := Lib.hid (show Box2 (w2.alloc (.cells #[.int .i64 cN, .int .i64 cD] 27)) w2.heap.size cN cD from Box2.new rfl); clear g2 g2')
        | (go_at_call 39; (with_reducible refine (C39.out _ G2.out).mono ?_); rintro e w3 ⟨rfl, g3⟩; have g3' := g3.alloc (.cells #[.int .i64 lA, .int .i64 lB, .int .i64 lD] 37); have G3 := Lib.hid (G2.out.trans g3'); have BX := Lib.hid (BX.out.gr g3'); have BY := Lib.hid (BY.out.gr g3'); have BL := Lib.hid (BL.out.gr g3'); have BM := Lib.hid (show Box3 (w3.alloc (.cells #[.int .i64 lA, .int .i64 lB, .int .i64 lD] 37)) w3.heap.size lA lB lD from Box3.new rfl); clear g3 g3')
        | (go_at_call 43; (with_reducible refine (C43.out _ G3.out).mono ?_); rintro e w4 ⟨bw, cw, m', W', rfl, c1, c2', gd, rd, g4⟩; have GD := Lib.hid gd; have RD := Lib.hid rd; clear gd rd; have G4 := Lib.hid (G3.out.trans g4); have BX := Lib.hid (BX.out.gr g4); have BY := Lib.hid (BY.out.gr g4); have BL := Lib.hid (BL.out.gr g4); have BM := Lib.hid (BM.out.gr g4); obtain ⟨bl0, bl1, _, _⟩ := BL.out; obtain ⟨bm0, bm1, bm2, _, _, _⟩ := BM.out; clear g4)
        | (go_at_call 33; (with_reducible refine (C33.out _ G4.out).mono ?_); rintro e w5 ⟨rfl, g5⟩; have g5' := g5.alloc (.cells #[.int .i64 cN, .int .i64 cD] 27); have G5 := Lib.hid (G4.out.trans g5'); have BX := Lib.hid (BX.out.gr g5'); have BY := Lib.hid (BY.out.gr g5'); have BL := Lib.hid (BL.out.gr g5'); have BM := Lib.hid (BM.out.gr g5'); have RD := Lib.hid (RD.out.gr g5'); have BS := Lib.hid (show Box2 (w5.alloc (.cells #[.int .i64 cN, .int .i64 cD] 27)) w5.heap.size cN cD from Box2.new rfl); obtain ⟨bl0, bl1, _, _⟩ := BL.out; clear g5 g5')
        | (go_at_call 41; (with_reducible refine (C41.out _ G5.out bw cw m' W' GD.out RD.out).mono ?_); rintro e w6 ⟨rfl, g6⟩; have G6 := Lib.hid (G5.out.trans g6); have BX := Lib.hid (BX.out.gr g6); have BY := Lib.hid (BY.out.gr g6); have BL := Lib.hid (BL.out.gr g6); have BM := Lib.hid (BM.out.gr g6); have RD := Lib.hid (RD.out.gr g6); have BS := Lib.hid (BS.out.gr g6); obtain ⟨bl0, bl1, _, _⟩ := BL.out; obtain ⟨bs0, bs1, _, _⟩ := BS.out; obtain ⟨bx0, bx1, bx2, _, _, _⟩ := BX.out; clear g6)
        | (go_at_call 33; (with_reducible refine (CX.out _ G6.out).mono ?_); rintro e w7 ⟨rfl, g7⟩; have g7' := g7.alloc (.cells #[.int .i64 sN, .int .i64 sD] 27); have G7 := Lib.hid (G6.out.trans g7'); have BX := Lib.hid (BX.out.gr g7'); have BY := Lib.hid (BY.out.gr g7'); have BL := Lib.hid (BL.out.gr g7'); have BM := Lib.hid (BM.out.gr g7'); have RD := Lib.hid (RD.out.gr g7'); have BS := Lib.hid (BS.out.gr g7'); have BO := Lib.hid (show Box2 (w7.alloc (.cells #[.int .i64 sN, .int .i64 sD] 27)) w7.heap.size sN sD from Box2.new rfl); obtain ⟨bl0, bl1, _, _⟩ := BL.out; obtain ⟨bo0, bo1, _, _⟩ := BO.out; obtain ⟨by0, by1, _, _⟩ := BY.out; clear g7 g7')
        | (go_at_call 46; (with_reducible refine (L3z.out _).mono ?_); rintro e w8 ⟨rfl, g8⟩; have G8 := Lib.hid (G7.out.trans g8); have BX := Lib.hid (BX.out.gr g8); have BY := Lib.hid (BY.out.gr g8); have BL := Lib.hid (BL.out.gr g8); have BM := Lib.hid (BM.out.gr g8); have RD := Lib.hid (RD.out.gr g8); have BS := Lib.hid (BS.out.gr g8); have BO := Lib.hid (BO.out.gr g8); obtain ⟨bl0, bl1, _, _⟩ := BL.out; obtain ⟨by0, by1, _, _⟩ := BY.out; clear g8)
        | (go_at_call 41; (with_reducible refine (CP.out _ G8.out).mono ?_); rintro e w9 ⟨rfl, g9⟩; have G9 := Lib.hid (G8.out.trans g9); have BX := Lib.hid (BX.out.gr g9); have BY := Lib.hid (BY.out.gr g9); have BL := Lib.hid (BL.out.gr g9); have BM := Lib.hid (BM.out.gr g9); have RD := Lib.hid (RD.out.gr g9); have BS := Lib.hid (BS.out.gr g9); have BO := Lib.hid (BO.out.gr g9); obtain ⟨bl0, bl1, _, _⟩ := BL.out; obtain ⟨by0, by1, _, _⟩ := BY.out; clear g9)
        | (go_at_call 46; (with_reducible refine (L4z.out _).mono ?_); rintro e w10 ⟨rfl, g10⟩; have G10 := Lib.hid (G9.out.trans g10); have BX := Lib.hid (BX.out.gr g10); have BY := Lib.hid (BY.out.gr g10); have BL := Lib.hid (BL.out.gr g10); have BM := Lib.hid (BM.out.gr g10); have RD := Lib.hid (RD.out.gr g10); have BS := Lib.hid (BS.out.gr g10); have BO := Lib.hid (BO.out.gr g10); clear g10)
        | (go_at_call 16; refine (Awake_any _).mono ?_; rintro e w6 ⟨rfl, hg11⟩))
      go_ret
      exact ⟨rfl, G10.out.trans hg11⟩
  · have d1 : (oe == 0) = false := by simpa using he
    have d1' : (oe != 0) = true := by simpa using he
    clear L3
    rcases PE3 with ⟨rfl, rfl⟩ | ⟨rfl, rfl⟩ | ⟨rfl, rfl⟩
    · clear L4
      go_enter Try.func11, Try.ntmps11
      go_wp2_with (first
        | (go_at_call 15; refine (HL.out _).mono ?_; rintro e w' ⟨rfl, rfl⟩)
        | (go_at_call 29; (with_reducible refine (CV.out _ G0.out).mono ?_); rintro e w1 ⟨rfl, g1⟩; have G1 := Lib.hid (G0.out.trans g1); have BX := Lib.hid (BX.out.gr g1); have BY := Lib.hid (BY.out.gr g1); clear g1)
        | (go_at_call 19; (with_reducible refine (C19.out _ G1.out).mono ?_); rintro e w2 ⟨rfl, g2⟩; have g2' := g2.alloc (.cells #[.int .i64 cN, .int .i64 cD] 27); have G2 := Lib.hid (G1.out.trans g2'); have BX := Lib.hid (BX.out.gr g2'); have BY := Lib.hid (BY.out.gr g2'); have BL := Lib.hid (show Box2 (w2.alloc (.cells #[.int .i64 cN, .int .i64 cD] 27)) w2.heap.size cN cD from Box2.new rfl); clear g2 g2')
        | (go_at_call 39; (with_reducible refine (C39.out _ G2.out).mono ?_); rintro e w3 ⟨rfl, g3⟩; have g3' := g3.alloc (.cells #[.int .i64 lA, .int .i64 lB, .int .i64 lD] 37); have G3 := Lib.hid (G2.out.trans g3'); have BX := Lib.hid (BX.out.gr g3'); have BY := Lib.hid (BY.out.gr g3'); have BL := Lib.hid (BL.out.gr g3'); have BM := Lib.hid (show Box3 (w3.alloc (.cells #[.int .i64 lA, .int .i64 lB, .int .i64 lD] 37)) w3.heap.size lA lB lD from Box3.new rfl); clear g3 g3')
        | (go_at_call 43; (with_reducible refine (C43.out _ G3.out).mono ?_); rintro e w4 ⟨bw, cw, m', W', rfl, c1, c2', gd, rd, g4⟩; have GD := Lib.hid gd; have RD := Lib.hid rd; clear gd rd; have G4 := Lib.hid (G3.out.trans g4); have BX := Lib.hid (BX.out.gr g4); have BY := Lib.hid (BY.out.gr g4); have BL := Lib.hid (BL.out.gr g4); have BM := Lib.hid (BM.out.gr g4); obtain ⟨bl0, bl1, _, _⟩ := BL.out; obtain ⟨bm0, bm1, bm2, _, _, _⟩ := BM.out; clear g4)
        | (go_at_call 33; (with_reducible refine (C33.out _ G4.out).mono ?_); rintro e w5 ⟨rfl, g5⟩; have g5' := g5.alloc (.cells #[.int .i64 cN, .int .i64 cD] 27); have G5 := Lib.hid (G4.out.trans g5'); have BX := Lib.hid (BX.out.gr g5'); have BY := Lib.hid (BY.out.gr g5'); have BL := Lib.hid (BL.out.gr g5'); have BM := Lib.hid (BM.out.gr g5'); have RD := Lib.hid (RD.out.gr g5'); have BS := Lib.hid (show Box2 (w5.alloc (.cells #[.int .i64 cN, .int .i64 cD] 27)) w5.heap.size cN cD from Box2.new rfl); obtain ⟨bl0, bl1, _, _⟩ := BL.out; clear g5 g5')
        | (go_at_call 41; (with_reducible refine (C41.out _ G5.out bw cw m' W' GD.out RD.out).mono ?_); rintro e w6 ⟨rfl, g6⟩; have G6 := Lib.hid (G5.out.trans g6); have BX := Lib.hid (BX.out.gr g6); have BY := Lib.hid (BY.out.gr g6); have BL := Lib.hid (BL.out.gr g6); have BM := Lib.hid (BM.out.gr g6); have RD := Lib.hid (RD.out.gr g6); have BS := Lib.hid (BS.out.gr g6); obtain ⟨bl0, bl1, _, _⟩ := BL.out; obtain ⟨bs0, bs1, _, _⟩ := BS.out; obtain ⟨bx0, bx1, bx2, _, _, _⟩ := BX.out; clear g6)
        | (go_at_call 33; (with_reducible refine (CX.out _ G6.out).mono ?_); rintro e w7 ⟨rfl, g7⟩; have g7' := g7.alloc (.cells #[.int .i64 (okN oe sN), .int .i64 (okN oe sD)] 27); have G7 := Lib.hid (G6.out.trans g7'); have BX := Lib.hid (BX.out.gr g7'); have BY := Lib.hid (BY.out.gr g7'); have BL := Lib.hid (BL.out.gr g7'); have BM := Lib.hid (BM.out.gr g7'); have RD := Lib.hid (RD.out.gr g7'); have BS := Lib.hid (BS.out.gr g7'); have BO := Lib.hid (show Box2 (w7.alloc (.cells #[.int .i64 (okN oe sN), .int .i64 (okN oe sD)] 27)) w7.heap.size (okN oe sN) (okN oe sD) from Box2.new rfl); obtain ⟨bl0, bl1, _, _⟩ := BL.out; obtain ⟨bo0, bo1, _, _⟩ := BO.out; obtain ⟨by0, by1, _, _⟩ := BY.out; clear g7 g7')
        | (go_at_call 41; (with_reducible refine (CP.out _ G7.out).mono ?_); rintro e w8 ⟨rfl, g8⟩; have G8 := Lib.hid (G7.out.trans g8); have BX := Lib.hid (BX.out.gr g8); have BY := Lib.hid (BY.out.gr g8); have BL := Lib.hid (BL.out.gr g8); have BM := Lib.hid (BM.out.gr g8); have RD := Lib.hid (RD.out.gr g8); have BS := Lib.hid (BS.out.gr g8); have BO := Lib.hid (BO.out.gr g8); obtain ⟨bl0, bl1, _, _⟩ := BL.out; obtain ⟨by0, by1, _, _⟩ := BY.out; clear g8)
        | (go_at_call 16; refine (Awake_any _).mono ?_; rintro e w6 ⟨rfl, hg11⟩))
      go_ret
      exact ⟨rfl, G8.out.trans hg11⟩
    · clear L4
      go_enter Try.func11, Try.ntmps11
      go_wp2_with (first
        | (go_at_call 15; refine (HL.out _).mono ?_; rintro e w' ⟨rfl, rfl⟩)
        | (go_at_call 29; (with_reducible refine (CV.out _ G0.out).mono ?_); rintro e w1 ⟨rfl, g1⟩; have G1 := Lib.hid (G0.out.trans g1); have BX := Lib.hid (BX.out.gr g1); have BY := Lib.hid (BY.out.gr g1); clear g1)
        | (go_at_call 19; (with_reducible refine (C19.out _ G1.out).mono ?_); rintro e w2 ⟨rfl, g2⟩; have g2' := g2.alloc (.cells #[.int .i64 cN, .int .i64 cD] 27); have G2 := Lib.hid (G1.out.trans g2'); have BX := Lib.hid (BX.out.gr g2'); have BY := Lib.hid (BY.out.gr g2'); have BL := Lib.hid (show Box2 (w2.alloc (.cells #[.int .i64 cN, .int .i64 cD] 27)) w2.heap.size cN cD from Box2.new rfl); clear g2 g2')
        | (go_at_call 39; (with_reducible refine (C39.out _ G2.out).mono ?_); rintro e w3 ⟨rfl, g3⟩; have g3' := g3.alloc (.cells #[.int .i64 lA, .int .i64 lB, .int .i64 lD] 37); have G3 := Lib.hid (G2.out.trans g3'); have BX := Lib.hid (BX.out.gr g3'); have BY := Lib.hid (BY.out.gr g3'); have BL := Lib.hid (BL.out.gr g3'); have BM := Lib.hid (show Box3 (w3.alloc (.cells #[.int .i64 lA, .int .i64 lB, .int .i64 lD] 37)) w3.heap.size lA lB lD from Box3.new rfl); clear g3 g3')
        | (go_at_call 43; (with_reducible refine (C43.out _ G3.out).mono ?_); rintro e w4 ⟨bw, cw, m', W', rfl, c1, c2', gd, rd, g4⟩; have GD := Lib.hid gd; have RD := Lib.hid rd; clear gd rd; have G4 := Lib.hid (G3.out.trans g4); have BX := Lib.hid (BX.out.gr g4); have BY := Lib.hid (BY.out.gr g4); have BL := Lib.hid (BL.out.gr g4); have BM := Lib.hid (BM.out.gr g4); obtain ⟨bl0, bl1, _, _⟩ := BL.out; obtain ⟨bm0, bm1, bm2, _, _, _⟩ := BM.out; clear g4)
        | (go_at_call 33; (with_reducible refine (C33.out _ G4.out).mono ?_); rintro e w5 ⟨rfl, g5⟩; have g5' := g5.alloc (.cells #[.int .i64 cN, .int .i64 cD] 27); have G5 := Lib.hid (G4.out.trans g5'); have BX := Lib.hid (BX.out.gr g5'); have BY := Lib.hid (BY.out.gr g5'); have BL := Lib.hid (BL.out.gr g5'); have BM := Lib.hid (BM.out.gr g5'); have RD := Lib.hid (RD.out.gr g5'); have BS := Lib.hid (show Box2 (w5.alloc (.cells #[.int .i64 cN, .int .i64 cD] 27)) w5.heap.size cN cD from Box2.new rfl); obtain ⟨bl0, bl1, _, _⟩ := BL.out; clear g5 g5')
        | (go_at_call 41; (with_reducible refine (C41.out _ G5.out bw cw m' W' GD.out RD.out).mono ?_); rintro e w6 ⟨rfl, g6⟩; have G6 := Lib.hid (G5.out.trans g6); have BX := Lib.hid (BX.out.gr g6); have BY := Lib.hid (BY.out.gr g6); have BL := Lib.hid (BL.out.gr g6); have BM := Lib.hid (BM.out.gr g6); have RD := Lib.hid (RD.out.gr g6); have BS := Lib.hid (BS.out.gr g6); obtain ⟨bl0, bl1, _, _⟩ := BL.out; obtain ⟨bs0, bs1, _, _⟩ := BS.out; obtain ⟨bx0, bx1, bx2, _, _, _⟩ := BX.out; clear g6)
        | (go_at_call 33; (with_reducible refine (CX.out _ G6.out).mono ?_); rintro e w7 ⟨rfl, g7⟩; have g7' := g7.alloc (.cells #[.int .i64 (okN oe sN), .int .i64 (okN oe sD)] 27); have G7 := Lib.hid (G6.out.trans g7'); have BX := Lib.hid (BX.out.gr g7'); have BY := Lib.hid (BY.out.gr g7'); have BL := Lib.hid (BL.out.gr g7'); have BM := Lib.hid (BM.out.gr g7'); have RD := Lib.hid (RD.out.gr g7'); have BS := Lib.hid (BS.out.gr g7'); have BO := Lib.hid (show Box2 (w7.alloc (.cells #[.int .i64 (okN oe sN), .int .i64 (okN oe sD)] 27)) w7.heap.size (okN oe sN) (okN oe sD) from Box2.new rfl); obtain ⟨bl0, bl1, _, _⟩ := BL.out; obtain ⟨bo0, bo1, _, _⟩ := BO.out; obtain ⟨by0, by1, _, _⟩ := BY.out; clear g7 g7')
        | (go_at_call 41; (with_reducible refine (CP.out _ G7.out).mono ?_); rintro e w8 ⟨rfl, g8⟩; have G8 := Lib.hid (G7.out.trans g8); have BX := Lib.hid (BX.out.gr g8); have BY := Lib.hid (BY.out.gr g8); have BL := Lib.hid (BL.out.gr g8); have BM := Lib.hid (BM.out.gr g8); have RD := Lib.hid (RD.out.gr g8); have BS := Lib.hid (BS.out.gr g8); have BO := Lib.hid (BO.out.gr g8); obtain ⟨bl0, bl1, _, _⟩ := BL.out; obtain ⟨by0, by1, _, _⟩ := BY.out; clear g8)
        | (go_at_call 16; refine (Awake_any _).mono ?_; rintro e w6 ⟨rfl, hg11⟩))
      go_ret
      exact ⟨rfl, G8.out.trans hg11⟩
    · have L4z := Lib.hid (L4.out rfl)
      clear L4
      go_enter Try.func11, Try.ntmps11
      go_wp2_with (first
        | (go_at_call 15; refine (HL.out _).mono ?_; rintro e w' ⟨rfl, rfl⟩)
        | (go_at_call 29; (with_reducible refine (CV.out _ G0.out).mono ?_); rintro e w1 ⟨rfl, g1⟩; have G1 := Lib.hid (G0.out.trans g1); have BX := Lib.hid (BX.out.gr g1); have BY := Lib.hid (BY.out.gr g1); clear g1)
        | (go_at_call 19; (with_reducible refine (C19.out _ G1.out).mono ?_); rintro e w2 ⟨rfl, g2⟩; have g2' := g2.alloc (.cells #[.int .i64 cN, .int .i64 cD] 27); have G2 := Lib.hid (G1.out.trans g2'); have BX := Lib.hid (BX.out.gr g2'); have BY := Lib.hid (BY.out.gr g2'); have BL := Lib.hid (show Box2 (w2.alloc (.cells #[.int .i64 cN, .int .i64 cD] 27)) w2.heap.size cN cD from Box2.new rfl); clear g2 g2')
        | (go_at_call 39; (with_reducible refine (C39.out _ G2.out).mono ?_); rintro e w3 ⟨rfl, g3⟩; have g3' := g3.alloc (.cells #[.int .i64 lA, .int .i64 lB, .int .i64 lD] 37); have G3 := Lib.hid (G2.out.trans g3'); have BX := Lib.hid (BX.out.gr g3'); have BY := Lib.hid (BY.out.gr g3'); have BL := Lib.hid (BL.out.gr g3'); have BM := Lib.hid (show Box3 (w3.alloc (.cells #[.int .i64 lA, .int .i64 lB, .int .i64 lD] 37)) w3.heap.size lA lB lD from Box3.new rfl); clear g3 g3')
        | (go_at_call 43; (with_reducible refine (C43.out _ G3.out).mono ?_); rintro e w4 ⟨bw, cw, m', W', rfl, c1, c2', gd, rd, g4⟩; have GD := Lib.hid gd; have RD := Lib.hid rd; clear gd rd; have G4 := Lib.hid (G3.out.trans g4); have BX := Lib.hid (BX.out.gr g4); have BY := Lib.hid (BY.out.gr g4); have BL := Lib.hid (BL.out.gr g4); have BM := Lib.hid (BM.out.gr g4); obtain ⟨bl0, bl1, _, _⟩ := BL.out; obtain ⟨bm0, bm1, bm2, _, _, _⟩ := BM.out; clear g4)
        | (go_at_call 33; (with_reducible refine (C33.out _ G4.out).mono ?_); rintro e w5 ⟨rfl, g5⟩; have g5' := g5.alloc (.cells #[.int .i64 cN, .int .i64 cD] 27); have G5 := Lib.hid (G4.out.trans g5'); have BX := Lib.hid (BX.out.gr g5'); have BY := Lib.hid (BY.out.gr g5'); have BL := Lib.hid (BL.out.gr g5'); have BM := Lib.hid (BM.out.gr g5'); have RD := Lib.hid (RD.out.gr g5'); have BS := Lib.hid (show Box2 (w5.alloc (.cells #[.int .i64 cN, .int .i64 cD] 27)) w5.heap.size cN cD from Box2.new rfl); obtain ⟨bl0, bl1, _, _⟩ := BL.out; clear g5 g5')
        | (go_at_call 41; (with_reducible refine (C41.out _ G5.out bw cw m' W' GD.out RD.out).mono ?_); rintro e w6 ⟨rfl, g6⟩; have G6 := Lib.hid (G5.out.trans g6); have BX := Lib.hid (BX.out.gr g6); have BY := Lib.hid (BY.out.gr g6); have BL := Lib.hid (BL.out.gr g6); have BM := Lib.hid (BM.out.gr g6); have RD := Lib.hid (RD.out.gr g6); have BS := Lib.hid (BS.out.gr g6); obtain ⟨bl0, bl1, _, _⟩ := BL.out; obtain ⟨bs0, bs1, _, _⟩ := BS.out; obtain ⟨bx0, bx1, bx2, _, _, _⟩ := BX.out; clear g6)
        | (go_at_call 33; (with_reducible refine (CX.out _ G6.out).mono ?_); rintro e w7 ⟨rfl, g7⟩; have g7' := g7.alloc (.cells #[.int .i64 (okN oe sN), .int .i64 (okN oe sD)] 27); have G7 := Lib.hid (G6.out.trans g7'); have BX := Lib.hid (BX.out.gr g7'); have BY := Lib.hid (BY.out.gr g7'); have BL := Lib.hid (BL.out.gr g7'); have BM := Lib.hid (BM.out.gr g7'); have RD := Lib.hid (RD.out.gr g7'); have BS := Lib.hid (BS.out.gr g7'); have BO := Lib.hid (show Box2 (w7.alloc (.cells #[.int .i64 (okN oe sN), .int .i64 (okN oe sD)] 27)) w7.heap.size (okN oe sN) (okN oe sD) from Box2.new rfl); obtain ⟨bl0, bl1, _, _⟩ := BL.out; obtain ⟨bo0, bo1, _, _⟩ := BO.out; obtain ⟨by0, by1, _, _⟩ := BY.out; clear g7 g7')
        | (go_at_call 41; (with_reducible refine (CP.out _ G7.out).mono ?_); rintro e w8 ⟨rfl, g8⟩; have G8 := Lib.hid (G7.out.trans g8); have BX := Lib.hid (BX.out.gr g8); have BY := Lib.hid (BY.out.gr g8); have BL := Lib.hid (BL.out.gr g8); have BM := Lib.hid (BM.out.gr g8); have RD := Lib.hid (RD.out.gr g8); have BS := Lib.hid (BS.out.gr g8); have BO := Lib.hid (BO.out.gr g8); obtain ⟨bl0, bl1, _, _⟩ := BL.out; obtain ⟨by0, by1, _, _⟩ := BY.out; clear g8)
        | (go_at_call 46; (with_reducible refine (L4z.out _).mono ?_); rintro e w9 ⟨rfl, g9⟩; have G9 := Lib.hid (G8.out.trans g9); have BX := Lib.hid (BX.out.gr g9); have BY := Lib.hid (BY.out.gr g9); have BL := Lib.hid (BL.out.gr g9); have BM := Lib.hid (BM.out.gr g9); have RD := Lib.hid (RD.out.gr g9); have BS := Lib.hid (BS.out.gr g9); have BO := Lib.hid (BO.out.gr g9); clear g9)
        | (go_at_call 16; refine (Awake_any _).mono ?_; rintro e w6 ⟨rfl, hg11⟩))
      go_ret
      exact ⟨rfl, G9.out.trans hg11⟩

set_option maxRecDepth 100000 in
theorem lifted (os : Os) (started : os.Started) (H : Type) (enc : TypeId × Value → H) :
    ReturnsInHanded {} Try.checked os 11 .any (Rows.trackCostsSpec.pre6 enc Try.prog Try.f11 Rows.trackCostsRow.domain false) (Rows.trackCostsSpec.post enc Try.prog Try.f11 false true false false) := by
  refine returnsInHanded_of_change (C := Try.checked) own started (by kernel_rfl) Try.func11
    (ChangeSpec.witness6 (enc := enc) (C := Try.checked) false ⟨#[], #[.slice none 0 0, .agg #[.int .i64 0, .int .i64 0, .int .i64 0], .slice none 0 0, .int .i64 0, .agg #[.int .i64 0, .int .i64 0]], []⟩ 8 (by kernel_rfl) (by kernel_rfl) (by kernel_rfl) (by kernel_rfl)) ?_
  intro W base args ds gs before hval0 hW hcnd _
  have hval : ∀ (j : Nat) t v, Try.f11.params[j]? = some t → args[j]? = some v → Value.okWide Try.prog W .any base t v := hval0
  have hW' := hW
  obtain ⟨p, q, hA0, hV, rfl, hfz, hnd⟩ := hW
  have hA : DataW.TrodAll enc Try.prog W 0 (fun _ => true) true Try.f11.params.toList args.toList ds p := hA0
  rw [Try.params11] at hA hval
  obtain ⟨v0, vs0, d0, ds0, p0, q0, hargs, rfl, rfl, h0, r0⟩ := trodAll_cons hA
  obtain ⟨v1, vs1, d1, ds1, p1, q1, rfl, rfl, rfl, h1, r1⟩ := trodAll_cons r0
  obtain ⟨v2, vs2, d2, ds2, p2, q2, rfl, rfl, rfl, h2, r2⟩ := trodAll_cons r1
  obtain ⟨v3, vs3, d3, ds3, p3, q3, rfl, rfl, rfl, h3, r3⟩ := trodAll_cons r2
  obtain ⟨v4, vs4, d4, ds4, p4, q4, rfl, rfl, rfl, h4, r4⟩ := trodAll_cons r3
  obtain ⟨rfl, rfl, rfl⟩ := trodAll_nil r4
  obtain rfl : args = #[v0, v1, v2, v3, v4] := by cases args; simp_all
  obtain ⟨rfl, rfl⟩ := trodVars_none hV
  obtain ⟨a0, len0, cap0, rfl⟩ := okWide_slice Try.underlying22 (hval 0 22 v0 rfl rfl)
  have k0 := h0
  have lt0 : ∀ x ∈ p0, x.block < W.heap.size := by obtain ⟨m, hm⟩ := k0; exact DataW.trod_lt m _ _ _ hm
  obtain ⟨x0, y0, wn0, _, wr0⟩ : ∃ f g : Nat → Int, len0 ≤ 9223372036854775807 ∧ (∀ i, i < len0 → (Lit.int .i64 (f i)).wf = true ∧ (Lit.int .i64 (g i)).wf = true) ∧ RdM W a0 len0 f g := by
    obtain ⟨fuel, hf⟩ := h0
    exact RdM.of_trod Try.underlying22 Try.underlying56 (by kernel_rfl) ⟨rfl, rfl⟩ ⟨rfl, rfl⟩ (by kernel_rfl) Try.underlying3 hf
  have k1 := h1
  have lt1 : ∀ x ∈ p1, x.block < W.heap.size := by obtain ⟨m, hm⟩ := k1; exact DataW.trod_lt m _ _ _ hm
  obtain ⟨x1, y1, z1, rfl, wx1, wy1, wz1⟩ := open_triple Try.underlying37 (by kernel_rfl) (by kernel_rfl) rfl rfl rfl Try.underlying3 (hval 1 37 v1 rfl rfl) h1
  obtain ⟨a2, len2, cap2, rfl⟩ := okWide_slice Try.underlying23 (hval 2 23 v2 rfl rfl)
  have k2 := h2
  have lt2 : ∀ x ∈ p2, x.block < W.heap.size := by obtain ⟨m, hm⟩ := k2; exact DataW.trod_lt m _ _ _ hm
  obtain ⟨z2, w2⟩ : ∃ zs, IsRow W a2 len2 cap2 zs := by
    obtain ⟨fuel, hf⟩ := h2
    rcases open_ints Try.underlying23 Try.underlying3 (by kernel_rfl) hf with ⟨hcs, _⟩ | ⟨x, l, c, zs, hcs, _, hl, hm, hz, _, hcell, hwz⟩
    · simp [Value.cells] at hcs
      obtain ⟨rfl, rfl, rfl⟩ := hcs
      exact ⟨[], .inl ⟨rfl, rfl, rfl, rfl⟩⟩
    · simp [Value.cells] at hcs
      obtain ⟨rfl, rfl, rfl⟩ := hcs
      exact ⟨zs, .inr ⟨_, rfl, hl, hm, by simpa using hz, hcell, hwz⟩⟩
  obtain ⟨a3, rfl, rfl, rfl, w3⟩ := open_int Try.underlying3 (hval 3 3 v3 rfl rfl) h3
  have k4 := h4
  have lt4 : ∀ x ∈ p4, x.block < W.heap.size := by obtain ⟨m, hm⟩ := k4; exact DataW.trod_lt m _ _ _ hm
  obtain ⟨x4, y4, rfl, wx4, wy4⟩ := open_pair Try.underlying27 (by kernel_rfl) (by kernel_rfl) rfl rfl Try.underlying3 (hval 4 27 v4 rfl rfl) h4
  clear hA0 hval0
  refine (walk a0 len0 cap0 x0 y0 x1 y1 z1 a2 len2 cap2 _ a3 x4 y4 W wn0 wr0 w2.rd.1 w2.rd.2).mono fun e W' ⟨he, bel⟩ => ?_
  subst he
  exact ⟨_, rfl, _, _, _, [], _, [], hW', trodAll_mk1 (shut_bool Try.underlying4 _), (trodAll_cons_mk (Below.trod laidOut (by kernel_rfl) (of_decide_eq_true (by kernel_rfl)) k0 bel lt0) (trodAll_cons_mk (Below.trod laidOut (by kernel_rfl) (of_decide_eq_true (by kernel_rfl)) k1 bel lt1) (trodAll_cons_mk (Below.trod laidOut (by kernel_rfl) (of_decide_eq_true (by kernel_rfl)) k2 bel lt2) (trodAll_cons_mk (shut_int Try.underlying3 w3) (trodAll_cons_mk (Below.trod laidOut (by kernel_rfl) (of_decide_eq_true (by kernel_rfl)) k4 bel lt4) trodAll_mk0))))), rfl, bel.frame _, fun h => by cases h⟩

theorem over : Rows.trackCostsRow.holds Try.pinned (OpenSpec.ofChange Rows.trackCostsSpec) :=
  OpenClaim.holds_of_wide 11 Try.f11 rfl rfl rfl rfl rfl rfl rfl ⟨rfl, rfl, rfl, rfl, rfl⟩ rfl rfl rfl rfl rfl (by kernel_rfl) Try.func11 (by kernel_rfl)
    (of_decide_eq_true (by kernel_rfl)) (by unfold Func.isWrapper; first | (rw [if_pos (by decide +kernel)]; kernel_rfl) | (rw [if_neg (by decide +kernel)]; exact ⟨rfl, rfl⟩))
    (fun os started H enc _ => lifted os started H enc)

/-- The statement. -/
theorem proved : Rows.TrackCostsSaid := over
end Go.Proofs.Ytbhndfnfohoidaa.trackCosts
