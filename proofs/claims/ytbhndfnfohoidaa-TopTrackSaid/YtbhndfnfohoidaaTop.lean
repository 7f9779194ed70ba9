/- Proved: TopTrack returns true at all arguments, which read afterwards as before. Conditions: none. -/
import Derived.Test.YtbhndfnfohoidaaW40
import Derived.Test.YtbhndfnfohoidaaW39
import Derived.Test.YtbhndfnfohoidaaW28
import Derived.Test.YtbhndfnfohoidaaW21
import Derived.ProofKit
import Derived.OpenShut
import Derived.ShutString
import Derived.ChangeOld
import Derived.Below
namespace Go.Proofs.Ytbhndfnfohoidaa.topTrack
open Go.ChangeShapes Go.WideShapes Go.ChangeAt Go.RowKit Go.Firn
open Go.ChangeMaps (open_string shut_string)

theorem own : ownKnob Try.prog.godebug = none := by kernel_rfl
theorem laidOut : laidOutB Try.prog = true := by kernel_rfl

theorem ms_out {n : Nat} {f g : Nat → Int} {err : Int} {w w' : World} {e : Ending} (h : RetMs (pairs n f g) err w e w') : ∃ a c, e = .returned (.tuple #[.slice a n c, .int .i64 err]) ∧ n ≤ c ∧ c ≤ maxLen ∧ RdM w' a n f g ∧ Gr w w' := by
  obtain ⟨a, c, e1, e2, e3, e4, e5⟩ := h
  rw [pairs_length] at e1 e2 e4
  exact ⟨a, c, e1, e2, e3, e4.congr (fun i hi => ⟨px_pairs f g hi, py_pairs f g hi⟩), e5⟩

set_option maxHeartbeats 4000000 in
set_option maxRecDepth 100000 in
theorem walk (a : Option Addr) (n c : Nat) (X Y : Nat → Int) (A B D : Int) (s u : Int) (w : World) (hn : n ≤ 9223372036854775807) (hr : RdM w a n X Y) :
    Calls Try.prog 10 #[.slice a n c, .agg #[.int .i64 A, .int .i64 B, .int .i64 D], .int .i64 s, .int .i64 u] w (RetB true w) := by
  have HL := Lib.hid (fun w1 => Long_any a n c w1 hn)
  obtain ⟨W0, hW0⟩ : ∃ W0, w.alloc (.cells #[.int .i64 A, .int .i64 B, .int .i64 D] 37) = W0 := ⟨_, rfl⟩
  have G0 := Lib.hid (show Gr w W0 by rw [← hW0]; exact (Gr.refl w).alloc _)
  have BX := Lib.hid (show Box3 W0 w.heap.size A B D by rw [← hW0]; exact Box3.new rfl)
  by_cases h1 : 60 < n
  · have e1 : decide (60 < n) = true := by simpa using h1
    rw [e1] at HL
    clear e1
    go_enter Try.func10, Try.ntmps10
    go_wp2_with (first
      | (go_at_call 15; refine (HL.out _).mono ?_; rintro e w' ⟨rfl, rfl⟩)
      | (go_at_call 16; refine (Awake_any _).mono ?_; rintro e w6 ⟨rfl, hg11⟩))
    go_ret
    exact ⟨rfl, G0.out.trans hg11⟩
  have e1 : decide (60 < n) = false := by simpa using h1
  rw [e1] at HL
  have n60 : n ≤ 1000 := by omega
  have CV := Lib.hid (fun w1 (g : Gr w w1) => refValid_any a n c X Y w1 n60 (hr.gr g))
  cases hv : vP n X Y with
  | false =>
    rw [hv] at CV
    clear e1 h1 hr hv hn
    go_enter Try.func10, Try.ntmps10
    go_wp2_with (first
      | (go_at_call 15; refine (HL.out _).mono ?_; rintro e w' ⟨rfl, rfl⟩)
      | (go_at_call 29; refine (CV.out _ G0.out).mono ?_; rintro e w1 ⟨rfl, g1⟩; have G1 := Lib.hid (G0.out.trans g1); clear g1)
      | (go_at_call 16; refine (Awake_any _).mono ?_; rintro e w6 ⟨rfl, hg11⟩))
    go_ret
    exact ⟨rfl, G1.out.trans hg11⟩
  | true =>
  rw [hv] at CV
  have V := vP_iff.1 hv
  obtain ⟨q, hq, hp⟩ := bst_some V
  have pb := pr_bd V.few V.ok hp
  have ps := least_small V hq
  have WB := witS_bd (Y := Y) V.ok (wits_wit (n := n) (X := X))
  have CP := Lib.hid (fun w1 (g : Gr w w1) => proved_any a n c X Y V q hq w1 (hr.gr g))
  have TV : VP n (ng X) Y := turned_valid V
  have CT := Lib.hid (show ∀ w1, Gr w w1 → Calls Try.prog 48 #[.slice a n c] w1 (fun e w' => ∃ a1 c1, e = .returned (.tuple #[.slice a1 n c1, .int .i64 0]) ∧ n ≤ c1 ∧ c1 ≤ maxLen ∧ RdM w' a1 n (ng X) Y ∧ Gr w1 w') from fun w1 g => by
    have h := Turned_any a n c X Y w1 n60 (hr.gr g)
    rw [show vE n X Y = 0 by unfold vE; rw [hv]; rfl] at h
    exact h.mono fun e w' k => ms_out k)
  have CVT := Lib.hid (show ∀ w1 a1 c1, RdM w1 a1 n (ng X) Y → Calls Try.prog 29 #[.slice a1 n c1] w1 (RetB true w1) from fun w1 a1 c1 rd => by
    have h := refValid_any a1 n c1 (ng X) Y w1 n60 rd
    rw [vP_iff.2 TV] at h
    exact h)
  have CPT := Lib.hid (show ∀ w1 a1 c1, RdM w1 a1 n (ng X) Y → Calls Try.prog 47 #[.slice a1 n c1] w1 (fun e w' => e = .returned (.tuple #[.agg #[.int .i64 (pN n X Y q), .int .i64 (pE n X Y q)], .agg #[.int .i64 (witS X Y (wits n X)).N, .int .i64 (witS X Y (wits n X)).D], .bool true]) ∧ Gr w1 w') from fun w1 a1 c1 rd => by
    obtain ⟨q', hq', _⟩ := bst_some TV
    have h := proved_any a1 n c1 (ng X) Y TV q' hq' w1 rd
    obtain ⟨k1, k2⟩ := lik_cost V TV hq hq' (turned_lik n X Y) (turned_back n X Y)
    obtain ⟨k3, k4⟩ := lik_width V TV (turned_lik n X Y) (turned_back n X Y)
    rw [k1, k2, k3, k4] at h
    exact h)
  have RE : raE n X Y s u = 2 ∨ (raE n X Y s u = 0 ∧ raB n X Y s u = true) := by
    unfold raE
    rw [hv]
    cases raB n X Y s u <;> simp
  have CR := Lib.hid (fun w1 (g : Gr w w1) => Raised_any a n c X Y s u w1 n60 (hr.gr g))
  have CPR := Lib.hid (show raB n X Y s u = true → (∀ w1 a1 c1, RdM w1 a1 n X (rz X Y s u) → Calls Try.prog 29 #[.slice a1 n c1] w1 (RetB true w1)) ∧ ∀ w1 a1 c1, RdM w1 a1 n X (rz X Y s u) → Calls Try.prog 47 #[.slice a1 n c1] w1 (fun e w' => e = .returned (.tuple #[.agg #[.int .i64 (pN n X Y q), .int .i64 (pE n X Y q)], .agg #[.int .i64 (witS X Y (wits n X)).N, .int .i64 (witS X Y (wits n X)).D], .bool true]) ∧ Gr w1 w') from fun hb => by
    have RV : VP n X (rz X Y s u) := raised_valid V (raB_iff.1 hb)
    refine ⟨fun w1 a1 c1 rd => ?_, fun w1 a1 c1 rd => ?_⟩
    · have h := refValid_any a1 n c1 X (rz X Y s u) w1 n60 rd
      rw [vP_iff.2 RV] at h
      exact h
    obtain ⟨q', hq', _⟩ := bst_some RV
    have h := proved_any a1 n c1 X (rz X Y s u) RV q' hq' w1 rd
    obtain ⟨k1, k2⟩ := lik_cost V RV hq hq' (raised_lik n X Y s u) (raised_back n X Y s u)
    obtain ⟨k3, k4⟩ := lik_width V RV (raised_lik n X Y s u) (raised_back n X Y s u)
    rw [k1, k2, k3, k4] at h
    exact h)
  have CX := Lib.hid (fun w1 (g : Gr w w1) => Cost_any a n c X Y A B D w1 n60 (hr.gr g))
  have CW := Lib.hid (fun w1 (g : Gr w w1) => Width_any a n c X Y A B D w1 n60 (hr.gr g))
  have CL := Lib.hid (fun w1 => refValidLine_any A B D w1)
  have WE : (asE n X Y A B D = 0 ∧ inLB A B D = true) ∨ (asE n X Y A B D = 51 ∧ inLB A B D = false) := by
    unfold asE
    rw [hv]
    cases inLB A B D <;> simp
  have L3 := Lib.hid (show asE n X Y A B D = 0 → ∀ w', Calls Try.prog 46 #[.agg #[.int .i64 (rN (sumA X Y A B D n) D), .int .i64 (rD (sumA X Y A B D n) D)], .agg #[.int .i64 (pN n X Y q), .int .i64 (pE n X Y q)]] w' (RetB false w') from fun hE w' => by
    have IL := (asE_ok hE).2
    have hD : 0 < D := by have := IL.2.2.1; omega
    have mb := sumA_bd V.ok IL (Nat.le_refl n)
    have nl := V.few
    have r1 := rN_nonneg (d := D) mb.1
    have r2 := rN_le (d := D) mb.1
    have r3 := rD_pos (sumA X Y A B D n) hD
    have r4 := rD_le (sumA X Y A B D n) hD
    have D2 := IL.2.2.2
    have k1 := mul_bd (a := rN (sumA X Y A B D n) D) (b := pE n X Y q) (A := 2520000000) (B := 200) (by omega) (by omega) (by omega) (by omega)
    have k2 := mul_bd (a := pN n X Y q) (b := rD (sumA X Y A B D n) D) (A := 2400000) (B := 10000) (by omega) (by omega) (by omega) (by omega)
    have h := refLess_any (rN (sumA X Y A B D n) D) (rD (sumA X Y A B D n) D) (pN n X Y q) (pE n X Y q) w' (by unfold Sz; omega) (by unfold Sz; omega)
    rw [decide_eq_false (no_less V hq hD)] at h
    exact h)
  have L5 := Lib.hid (show asE n X Y A B D = 0 → ∀ w', Calls Try.prog 46 #[.agg #[.int .i64 (rN (maxA X Y A B D n) D), .int .i64 (rD (maxA X Y A B D n) D)], .agg #[.int .i64 (witS X Y (wits n X)).N, .int .i64 (witS X Y (wits n X)).D]] w' (RetB false w') from fun hE w' => by
    have IL := (asE_ok hE).2
    have hD : 0 < D := by have := IL.2.2.1; omega
    have mb := maxA_bd V.ok IL (Nat.le_refl n)
    have r1 := rN_nonneg (d := D) mb.1
    have r2 := rN_le (d := D) mb.1
    have r3 := rD_pos (maxA X Y A B D n) hD
    have r4 := rD_le (maxA X Y A B D n) hD
    have D2 := IL.2.2.2
    have k1 := mul_bd (a := rN (maxA X Y A B D n) D) (b := (witS X Y (wits n X)).D) (A := 210000000) (B := 400) (by omega) (by omega) (by omega) (by omega)
    have k2 := mul_bd (a := (witS X Y (wits n X)).N) (b := rD (maxA X Y A B D n) D) (A := 800000) (B := 10000) (by omega) (by omega) (by omega) (by omega)
    have h := refLess_any (rN (maxA X Y A B D n) D) (rD (maxA X Y A B D n) D) (witS X Y (wits n X)).N (witS X Y (wits n X)).D w' (by unfold Sz; omega) (by unfold Sz; omega)
    rw [decide_eq_false (narrow_any V hD)] at h
    exact h)
  have OK0 := Lib.hid (show ∀ x, okN 0 x = x from fun x => rfl)
  have OK1 := Lib.hid (show ∀ x, okN 51 x = 0 from fun x => rfl)
  clear e1 hr h1 hn hv V hp hq TV
  generalize asE n X Y A B D = oe at *
  generalize inLB A B D = ib at *
  generalize raE n X Y s u = re at *
  generalize raB n X Y s u = rb at *
  generalize pN n X Y q = cN at *
  generalize pE n X Y q = cD at *
  generalize rN (sumA X Y A B D n) D = sN at *
  generalize rD (sumA X Y A B D n) D = sD at *
  generalize rN (maxA X Y A B D n) D = tN at *
  generalize rD (maxA X Y A B D n) D = tD at *
  generalize (witS X Y (wits n X)).N = uN at *
  generalize (witS X Y (wits n X)).D = uD at *
  clear pb ps WB
  rcases WE with ⟨ho, hi⟩ | ⟨ho, hi⟩
  · have L3z := Lib.hid (L3.out ho)
    have L5z := Lib.hid (L5.out ho)
    rw [ho, OK0.out, OK0.out] at CX CW
    rw [hi] at CL
    clear L3 L5 ho hi
    rcases RE with hre | ⟨hre, hrb⟩
    · rw [hre, show okM 2 (pairs n X (rz X Y s u)) = [] from rfl] at CR
      have CR := Lib.hid (show ∀ w1, Gr w w1 → Calls Try.prog 49 #[.slice a n c, .int .i64 s, .int .i64 u] w1 (fun e w' => ∃ a2 c2, e = .returned (.tuple #[.slice a2 0 c2, .int .i64 2]) ∧ 0 ≤ c2 ∧ c2 ≤ maxLen ∧ True ∧ Gr w1 w') from fun w1 g => (CR.out w1 g).mono fun e w' ⟨a2, c2, e1, e2, e3, e4, e5⟩ => ⟨a2, c2, e1, e2, e3, trivial, e5⟩)
      clear CPR hre
      go_enter Try.func10, Try.ntmps10
      go_wp2_with (first
            | (go_at_call 15; refine (HL.out _).mono ?_; rintro e w' ⟨rfl, rfl⟩)
            | (go_at_call 29; (with_reducible refine (CV.out _ G0.out).mono ?_); rintro e w1 ⟨rfl, g1⟩; have G1 := Lib.hid (G0.out.trans g1); have BX := Lib.hid (BX.out.gr g1); clear g1)
            | (go_at_call 47; (with_reducible refine (CP.out _ G1.out).mono ?_); rintro e w2 ⟨rfl, g2⟩; have g2' := (g2.alloc (.cells #[.int .i64 cN, .int .i64 cD] 27)).alloc (.cells #[.int .i64 uN, .int .i64 uD] 27); have G2 := Lib.hid (G1.out.trans g2'); have BX := Lib.hid (BX.out.gr g2'); have BC := Lib.hid (show Box2 ((w2.alloc (.cells #[.int .i64 cN, .int .i64 cD] 27)).alloc (.cells #[.int .i64 uN, .int .i64 uD] 27)) w2.heap.size cN cD from (Box2.new rfl).gr ((Gr.refl _).alloc _)); have BU := Lib.hid (show Box2 ((w2.alloc (.cells #[.int .i64 cN, .int .i64 cD] 27)).alloc (.cells #[.int .i64 uN, .int .i64 uD] 27)) (w2.heap.size + 1) uN uD from Box2.new (by simp)); obtain ⟨bx0, bx1, bx2, _, _, _⟩ := BX.out; clear g2 g2')
            | (go_at_call 33; (with_reducible refine (CX.out _ G2.out).mono ?_); rintro e w3 ⟨rfl, g3⟩; have g3' := g3.alloc (.cells #[.int .i64 sN, .int .i64 sD] 27); have G3 := Lib.hid (G2.out.trans g3'); have BX := Lib.hid (BX.out.gr g3'); have BC := Lib.hid (BC.out.gr g3'); have BU := Lib.hid (BU.out.gr g3'); have BS := Lib.hid (show Box2 (w3.alloc (.cells #[.int .i64 sN, .int .i64 sD] 27)) w3.heap.size sN sD from Box2.new rfl); obtain ⟨bx0, bx1, bx2, _, _, _⟩ := BX.out; clear g3 g3')
            | (go_at_call 35; (with_reducible refine (CW.out _ G3.out).mono ?_); rintro e w4 ⟨rfl, g4⟩; have g4' := g4.alloc (.cells #[.int .i64 tN, .int .i64 tD] 27); have G4 := Lib.hid (G3.out.trans g4'); have BX := Lib.hid (BX.out.gr g4'); have BC := Lib.hid (BC.out.gr g4'); have BU := Lib.hid (BU.out.gr g4'); have BS := Lib.hid (BS.out.gr g4'); have BT := Lib.hid (show Box2 (w4.alloc (.cells #[.int .i64 tN, .int .i64 tD] 27)) w4.heap.size tN tD from Box2.new rfl); obtain ⟨bx0, bx1, bx2, _, _, _⟩ := BX.out; obtain ⟨bs0, bs1, _, _⟩ := BS.out; obtain ⟨bc0, bc1, _, _⟩ := BC.out; obtain ⟨bt0, bt1, _, _⟩ := BT.out; obtain ⟨bu0, bu1, _, _⟩ := BU.out; clear g4 g4')
            | (go_at_call 31; (with_reducible refine (CL.out _).mono ?_); rintro e w5 ⟨rfl, g5⟩; have G5 := Lib.hid (G4.out.trans g5); have BX := Lib.hid (BX.out.gr g5); have BC := Lib.hid (BC.out.gr g5); have BU := Lib.hid (BU.out.gr g5); have BS := Lib.hid (BS.out.gr g5); have BT := Lib.hid (BT.out.gr g5); obtain ⟨bs0, bs1, _, _⟩ := BS.out; obtain ⟨bc0, bc1, _, _⟩ := BC.out; obtain ⟨bt0, bt1, _, _⟩ := BT.out; obtain ⟨bu0, bu1, _, _⟩ := BU.out; clear g5)
            | (go_at_call 46; (with_reducible refine (L3z.out _).mono ?_); rintro e w6 ⟨rfl, g6⟩; have G6 := Lib.hid (G5.out.trans g6); have BX := Lib.hid (BX.out.gr g6); have BC := Lib.hid (BC.out.gr g6); have BU := Lib.hid (BU.out.gr g6); have BS := Lib.hid (BS.out.gr g6); have BT := Lib.hid (BT.out.gr g6); obtain ⟨bs0, bs1, _, _⟩ := BS.out; obtain ⟨bc0, bc1, _, _⟩ := BC.out; obtain ⟨bt0, bt1, _, _⟩ := BT.out; obtain ⟨bu0, bu1, _, _⟩ := BU.out; clear g6)
            | (go_at_call 46; (with_reducible refine (L5z.out _).mono ?_); rintro e w7 ⟨rfl, g7⟩; have G7 := Lib.hid (G6.out.trans g7); have BX := Lib.hid (BX.out.gr g7); have BC := Lib.hid (BC.out.gr g7); have BU := Lib.hid (BU.out.gr g7); have BS := Lib.hid (BS.out.gr g7); have BT := Lib.hid (BT.out.gr g7); obtain ⟨bs0, bs1, _, _⟩ := BS.out; obtain ⟨bc0, bc1, _, _⟩ := BC.out; obtain ⟨bt0, bt1, _, _⟩ := BT.out; obtain ⟨bu0, bu1, _, _⟩ := BU.out; clear g7)
            | (go_at_call 48; (with_reducible refine (CT.out _ G7.out).mono ?_); rintro e w8 ⟨a1, c1, rfl, h1, h2, rd, g8⟩; have RD := Lib.hid rd; clear rd; have G8 := Lib.hid (G7.out.trans g8); have BX := Lib.hid (BX.out.gr g8); have BC := Lib.hid (BC.out.gr g8); have BU := Lib.hid (BU.out.gr g8); have BS := Lib.hid (BS.out.gr g8); have BT := Lib.hid (BT.out.gr g8); clear g8)
            | (go_at_call 29; (with_reducible refine (CVT.out _ _ _ RD.out).mono ?_); rintro e w9 ⟨rfl, g9⟩; have G9 := Lib.hid (G8.out.trans g9); have BX := Lib.hid (BX.out.gr g9); have BC := Lib.hid (BC.out.gr g9); have BU := Lib.hid (BU.out.gr g9); have BS := Lib.hid (BS.out.gr g9); have BT := Lib.hid (BT.out.gr g9); have RD := Lib.hid (RD.out.gr g9); clear g9)
            | (go_at_call 47; (with_reducible refine (CPT.out _ _ _ RD.out).mono ?_); rintro e w10 ⟨rfl, g10⟩; have LB := World.block_lt_of_cell? w10 _ (BU.out.gr g10).1; simp only at LB; have g10' := (g10.alloc (.cells #[.int .i64 cN, .int .i64 cD] 27)).alloc (.cells #[.int .i64 uN, .int .i64 uD] 27); have G10 := Lib.hid (G9.out.trans g10'); have BX := Lib.hid (BX.out.gr g10'); have BC := Lib.hid (BC.out.gr g10'); have BU := Lib.hid (BU.out.gr g10'); have BS := Lib.hid (BS.out.gr g10'); have BT := Lib.hid (BT.out.gr g10'); have RD := Lib.hid (RD.out.gr g10'); have BE := Lib.hid (show Box2 ((w10.alloc (.cells #[.int .i64 cN, .int .i64 cD] 27)).alloc (.cells #[.int .i64 uN, .int .i64 uD] 27)) w10.heap.size cN cD from (Box2.new rfl).gr ((Gr.refl _).alloc _)); have BF := Lib.hid (show Box2 ((w10.alloc (.cells #[.int .i64 cN, .int .i64 cD] 27)).alloc (.cells #[.int .i64 uN, .int .i64 uD] 27)) (w10.heap.size + 1) uN uD from Box2.new (by simp)); obtain ⟨bc0, bc1, _, _⟩ := BC.out; obtain ⟨bu0, bu1, _, _⟩ := BU.out; obtain ⟨be0, be1, _, _⟩ := BE.out; obtain ⟨bf0, bf1, _, _⟩ := BF.out; clear g10 g10')
            | (go_at_call 49; (with_reducible refine (CR.out _ G10.out).mono ?_); rintro e w11 ⟨a2, c2, rfl, h3, h4, _, g11⟩; have G11 := Lib.hid (G10.out.trans g11); have BX := Lib.hid (BX.out.gr g11); have BC := Lib.hid (BC.out.gr g11); have BU := Lib.hid (BU.out.gr g11); have BS := Lib.hid (BS.out.gr g11); have BT := Lib.hid (BT.out.gr g11); have RD := Lib.hid (RD.out.gr g11); have BE := Lib.hid (BE.out.gr g11); have BF := Lib.hid (BF.out.gr g11); clear g11)
            | (go_at_call 16; refine (Awake_any _).mono ?_; rintro e w6 ⟨rfl, hg11⟩))
      go_ret
      exact ⟨rfl, G11.out.trans hg11⟩
    · rw [hre, show okM 0 (pairs n X (rz X Y s u)) = pairs n X (rz X Y s u) from rfl] at CR
      have CR := Lib.hid (show ∀ w1, Gr w w1 → Calls Try.prog 49 #[.slice a n c, .int .i64 s, .int .i64 u] w1 (fun e w' => ∃ a2 c2, e = .returned (.tuple #[.slice a2 n c2, .int .i64 0]) ∧ n ≤ c2 ∧ c2 ≤ maxLen ∧ RdM w' a2 n X (rz X Y s u) ∧ Gr w1 w') from fun w1 g => (CR.out w1 g).mono fun e w' k => ms_out k)
      obtain ⟨cpv, cpw⟩ := CPR.out hrb
      have CPV := Lib.hid cpv
      have CPW := Lib.hid cpw
      clear CPR hre hrb cpv cpw
      go_enter Try.func10, Try.ntmps10
      go_wp2_with (first
            | (go_at_call 15; refine (HL.out _).mono ?_; rintro e w' ⟨rfl, rfl⟩)
            | (go_at_call 29; (with_reducible refine (CV.out _ G0.out).mono ?_); rintro e w1 ⟨rfl, g1⟩; have G1 := Lib.hid (G0.out.trans g1); have BX := Lib.hid (BX.out.gr g1); clear g1)
            | (go_at_call 47; (with_reducible refine (CP.out _ G1.out).mono ?_); rintro e w2 ⟨rfl, g2⟩; have g2' := (g2.alloc (.cells #[.int .i64 cN, .int .i64 cD] 27)).alloc (.cells #[.int .i64 uN, .int .i64 uD] 27); have G2 := Lib.hid (G1.out.trans g2'); have BX := Lib.hid (BX.out.gr g2'); have BC := Lib.hid (show Box2 ((w2.alloc (.cells #[.int .i64 cN, .int .i64 cD] 27)).alloc (.cells #[.int .i64 uN, .int .i64 uD] 27)) w2.heap.size cN cD from (Box2.new rfl).gr ((Gr.refl _).alloc _)); have BU := Lib.hid (show Box2 ((w2.alloc (.cells #[.int .i64 cN, .int .i64 cD] 27)).alloc (.cells #[.int .i64 uN, .int .i64 uD] 27)) (w2.heap.size + 1) uN uD from Box2.new (by simp)); obtain ⟨bx0, bx1, bx2, _, _, _⟩ := BX.out; clear g2 g2')
            | (go_at_call 33; (with_reducible refine (CX.out _ G2.out).mono ?_); rintro e w3 ⟨rfl, g3⟩; have g3' := g3.alloc (.cells #[.int .i64 sN, .int .i64 sD] 27); have G3 := Lib.hid (G2.out.trans g3'); have BX := Lib.hid (BX.out.gr g3'); have BC := Lib.hid (BC.out.gr g3'); have BU := Lib.hid (BU.out.gr g3'); have BS := Lib.hid (show Box2 (w3.alloc (.cells #[.int .i64 sN, .int .i64 sD] 27)) w3.heap.size sN sD from Box2.new rfl); obtain ⟨bx0, bx1, bx2, _, _, _⟩ := BX.out; clear g3 g3')
            | (go_at_call 35; (with_reducible refine (CW.out _ G3.out).mono ?_); rintro e w4 ⟨rfl, g4⟩; have g4' := g4.alloc (.cells #[.int .i64 tN, .int .i64 tD] 27); have G4 := Lib.hid (G3.out.trans g4'); have BX := Lib.hid (BX.out.gr g4'); have BC := Lib.hid (BC.out.gr g4'); have BU := Lib.hid (BU.out.gr g4'); have BS := Lib.hid (BS.out.gr g4'); have BT := Lib.hid (show Box2 (w4.alloc (.cells #[.int .i64 tN, .int .i64 tD] 27)) w4.heap.size tN tD from Box2.new rfl); obtain ⟨bx0, bx1, bx2, _, _, _⟩ := BX.out; obtain ⟨bs0, bs1, _, _⟩ := BS.out; obtain ⟨bc0, bc1, _, _⟩ := BC.out; obtain ⟨bt0, bt1, _, _⟩ := BT.out; obtain ⟨bu0, bu1, _, _⟩ := BU.out; clear g4 g4')
            | (go_at_call 31; (with_reducible refine (CL.out _).mono ?_); rintro e w5 ⟨rfl, g5⟩; have G5 := Lib.hid (G4.out.trans g5); have BX := Lib.hid (BX.out.gr g5); have BC := Lib.hid (BC.out.gr g5); have BU := Lib.hid (BU.out.gr g5); have BS := Lib.hid (BS.out.gr g5); have BT := Lib.hid (BT.out.gr g5); obtain ⟨bs0, bs1, _, _⟩ := BS.out; obtain ⟨bc0, bc1, _, _⟩ := BC.out; obtain ⟨bt0, bt1, _, _⟩ := BT.out; obtain ⟨bu0, bu1, _, _⟩ := BU.out; clear g5)
            | (go_at_call 46; (with_reducible refine (L3z.out _).mono ?_); rintro e w6 ⟨rfl, g6⟩; have G6 := Lib.hid (G5.out.trans g6); have BX := Lib.hid (BX.out.gr g6); have BC := Lib.hid (BC.out.gr g6); have BU := Lib.hid (BU.out.gr g6); have BS := Lib.hid (BS.out.gr g6); have BT := Lib.hid (BT.out.gr g6); obtain ⟨bs0, bs1, _, _⟩ := BS.out; obtain ⟨bc0, bc1, _, _⟩ := BC.out; obtain ⟨bt0, bt1, _, _⟩ := BT.out; obtain ⟨bu0, bu1, _, _⟩ := BU.out; clear g6)
            | (go_at_call 46; (with_reducible refine (L5z.out _).mono ?_); rintro e w7 ⟨rfl, g7⟩; have G7 := Lib.hid (G6.out.trans g7); have BX := Lib.hid (BX.out.gr g7); have BC := Lib.hid (BC.out.gr g7); have BU := Lib.hid (BU.out.gr g7); have BS := Lib.hid (BS.out.gr g7); have BT := Lib.hid (BT.out.gr g7); obtain ⟨bs0, bs1, _, _⟩ := BS.out; obtain ⟨bc0, bc1, _, _⟩ := BC.out; obtain ⟨bt0, bt1, _, _⟩ := BT.out; obtain ⟨bu0, bu1, _, _⟩ := BU.out; clear g7)
            | (go_at_call 48; (with_reducible refine (CT.out _ G7.out).mono ?_); rintro e w8 ⟨a1, c1, rfl, h1, h2, rd, g8⟩; have RD := Lib.hid rd; clear rd; have G8 := Lib.hid (G7.out.trans g8); have BX := Lib.hid (BX.out.gr g8); have BC := Lib.hid (BC.out.gr g8); have BU := Lib.hid (BU.out.gr g8); have BS := Lib.hid (BS.out.gr g8); have BT := Lib.hid (BT.out.gr g8); clear g8)
            | (go_at_call 29; (with_reducible refine (CVT.out _ _ _ RD.out).mono ?_); rintro e w9 ⟨rfl, g9⟩; have G9 := Lib.hid (G8.out.trans g9); have BX := Lib.hid (BX.out.gr g9); have BC := Lib.hid (BC.out.gr g9); have BU := Lib.hid (BU.out.gr g9); have BS := Lib.hid (BS.out.gr g9); have BT := Lib.hid (BT.out.gr g9); have RD := Lib.hid (RD.out.gr g9); clear g9)
            | (go_at_call 47; (with_reducible refine (CPT.out _ _ _ RD.out).mono ?_); rintro e w10 ⟨rfl, g10⟩; have LB := World.block_lt_of_cell? w10 _ (BU.out.gr g10).1; simp only at LB; have g10' := (g10.alloc (.cells #[.int .i64 cN, .int .i64 cD] 27)).alloc (.cells #[.int .i64 uN, .int .i64 uD] 27); have G10 := Lib.hid (G9.out.trans g10'); have BX := Lib.hid (BX.out.gr g10'); have BC := Lib.hid (BC.out.gr g10'); have BU := Lib.hid (BU.out.gr g10'); have BS := Lib.hid (BS.out.gr g10'); have BT := Lib.hid (BT.out.gr g10'); have RD := Lib.hid (RD.out.gr g10'); have LE1 : w.heap.size ≤ w10.heap.size := Gr.size (G9.out.trans g10); have LE2 : w.heap.size ≤ w10.heap.size + 1 := Nat.le_succ_of_le LE1; have NE1 : w10.heap.size + 1 ≠ w10.heap.size := (by omega); have NE2 : w10.heap.size ≠ w10.heap.size + 1 := (by omega); have NE3 : w10.heap.size ≠ w2.heap.size := (by omega); have NE4 : w10.heap.size + 1 ≠ w2.heap.size := (by omega); have NE5 : w10.heap.size ≠ w2.heap.size + 1 := (by omega); have NE6 : w10.heap.size + 1 ≠ w2.heap.size + 1 := (by omega); have BE := Lib.hid (show Box2 ((w10.alloc (.cells #[.int .i64 cN, .int .i64 cD] 27)).alloc (.cells #[.int .i64 uN, .int .i64 uD] 27)) w10.heap.size cN cD from (Box2.new rfl).gr ((Gr.refl _).alloc _)); have BF := Lib.hid (show Box2 ((w10.alloc (.cells #[.int .i64 cN, .int .i64 cD] 27)).alloc (.cells #[.int .i64 uN, .int .i64 uD] 27)) (w10.heap.size + 1) uN uD from Box2.new (by simp)); obtain ⟨bc0, bc1, _, _⟩ := BC.out; obtain ⟨bu0, bu1, _, _⟩ := BU.out; obtain ⟨be0, be1, _, _⟩ := BE.out; obtain ⟨bf0, bf1, _, _⟩ := BF.out; clear g10 g10')
            | (go_at_call 49; (with_reducible refine (CR.out _ G10.out).mono ?_); rintro e w11 ⟨a2, c2, rfl, h3, h4, rd2, g11⟩; have RD2 := Lib.hid rd2; clear rd2; have G11 := Lib.hid (G10.out.trans g11); have BX := Lib.hid (BX.out.gr g11); have BC := Lib.hid (BC.out.gr g11); have BU := Lib.hid (BU.out.gr g11); have BS := Lib.hid (BS.out.gr g11); have BT := Lib.hid (BT.out.gr g11); have RD := Lib.hid (RD.out.gr g11); have BE := Lib.hid (BE.out.gr g11); have BF := Lib.hid (BF.out.gr g11); clear g11)
            | (go_at_call 29; (with_reducible refine (CPV.out _ _ _ RD2.out).mono ?_); rintro e w12 ⟨rfl, g12⟩; have G12 := Lib.hid (G11.out.trans g12); have BX := Lib.hid (BX.out.gr g12); have BC := Lib.hid (BC.out.gr g12); have BU := Lib.hid (BU.out.gr g12); have BS := Lib.hid (BS.out.gr g12); have BT := Lib.hid (BT.out.gr g12); have RD := Lib.hid (RD.out.gr g12); have BE := Lib.hid (BE.out.gr g12); have BF := Lib.hid (BF.out.gr g12); have RD2 := Lib.hid (RD2.out.gr g12); clear g12)
            | (go_at_call 47; (with_reducible refine (CPW.out _ _ _ RD2.out).mono ?_); rintro e w13 ⟨rfl, g13⟩; have G13 := Lib.hid (G12.out.trans g13); have BX := Lib.hid (BX.out.gr g13); have BC := Lib.hid (BC.out.gr g13); have BU := Lib.hid (BU.out.gr g13); have BS := Lib.hid (BS.out.gr g13); have BT := Lib.hid (BT.out.gr g13); have RD := Lib.hid (RD.out.gr g13); have BE := Lib.hid (BE.out.gr g13); have BF := Lib.hid (BF.out.gr g13); have RD2 := Lib.hid (RD2.out.gr g13); have GZ := Lib.hid (((((G13.out.setCell (p := ⟨w10.heap.size, 0, none⟩) LE1 (.int .i64 cN)).setCell (p := ⟨w10.heap.size, 1, none⟩) LE1 (.int .i64 cD)).setCell (p := ⟨w10.heap.size + 1, 0, none⟩) LE2 (.int .i64 uN)).setCell (p := ⟨w10.heap.size + 1, 1, none⟩) LE2 (.int .i64 uD))); obtain ⟨z0, z1, _, _⟩ := ((BE.out.put (x' := cN) (y' := cD)).far NE1 (.int .i64 uN) (.int .i64 uD)); obtain ⟨z2, z3, _, _⟩ := ((BF.out.far NE2 (.int .i64 cN) (.int .i64 cD)).put (x' := uN) (y' := uD)); obtain ⟨z4, z5, _, _⟩ := ((BC.out.far NE3 (.int .i64 cN) (.int .i64 cD)).far NE4 (.int .i64 uN) (.int .i64 uD)); obtain ⟨z6, z7, _, _⟩ := ((BU.out.far NE5 (.int .i64 cN) (.int .i64 cD)).far NE6 (.int .i64 uN) (.int .i64 uD)); obtain ⟨be0, be1, _, _⟩ := BE.out; obtain ⟨bf0, bf1, _, _⟩ := BF.out; clear g13)
            | (go_at_call 16; refine (Awake_any _).mono ?_; rintro e w6 ⟨rfl, hg11⟩))
      go_ret
      exact ⟨rfl, GZ.out.trans hg11⟩
  · rw [ho, OK1.out, OK1.out] at CX CW
    rw [hi] at CL
    clear L3 L5 ho hi
    rcases RE with hre | ⟨hre, hrb⟩
    · rw [hre, show okM 2 (pairs n X (rz X Y s u)) = [] from rfl] at CR
      have CR := Lib.hid (show ∀ w1, Gr w w1 → Calls Try.prog 49 #[.slice a n c, .int .i64 s, .int .i64 u] w1 (fun e w' => ∃ a2 c2, e = .returned (.tuple #[.slice a2 0 c2, .int .i64 2]) ∧ 0 ≤ c2 ∧ c2 ≤ maxLen ∧ True ∧ Gr w1 w') from fun w1 g => (CR.out w1 g).mono fun e w' ⟨a2, c2, e1, e2, e3, e4, e5⟩ => ⟨a2, c2, e1, e2, e3, trivial, e5⟩)
      clear CPR hre
      go_enter Try.func10, Try.ntmps10
      go_wp2_with (first
            | (go_at_call 15; refine (HL.out _).mono ?_; rintro e w' ⟨rfl, rfl⟩)
            | (go_at_call 29; (with_reducible refine (CV.out _ G0.out).mono ?_); rintro e w1 ⟨rfl, g1⟩; have G1 := Lib.hid (G0.out.trans g1); have BX := Lib.hid (BX.out.gr g1); clear g1)
            | (go_at_call 47; (with_reducible refine (CP.out _ G1.out).mono ?_); rintro e w2 ⟨rfl, g2⟩; have g2' := (g2.alloc (.cells #[.int .i64 cN, .int .i64 cD] 27)).alloc (.cells #[.int .i64 uN, .int .i64 uD] 27); have G2 := Lib.hid (G1.out.trans g2'); have BX := Lib.hid (BX.out.gr g2'); have BC := Lib.hid (show Box2 ((w2.alloc (.cells #[.int .i64 cN, .int .i64 cD] 27)).alloc (.cells #[.int .i64 uN, .int .i64 uD] 27)) w2.heap.size cN cD from (Box2.new rfl).gr ((Gr.refl _).alloc _)); have BU := Lib.hid (show Box2 ((w2.alloc (.cells #[.int .i64 cN, .int .i64 cD] 27)).alloc (.cells #[.int .i64 uN, .int .i64 uD] 27)) (w2.heap.size + 1) uN uD from Box2.new (by simp)); obtain ⟨bx0, bx1, bx2, _, _, _⟩ := BX.out; clear g2 g2')
            | (go_at_call 33; (with_reducible refine (CX.out _ G2.out).mono ?_); rintro e w3 ⟨rfl, g3⟩; have g3' := g3.alloc (.cells #[.int .i64 0, .int .i64 0] 27); have G3 := Lib.hid (G2.out.trans g3'); have BX := Lib.hid (BX.out.gr g3'); have BC := Lib.hid (BC.out.gr g3'); have BU := Lib.hid (BU.out.gr g3'); have BS := Lib.hid (show Box2 (w3.alloc (.cells #[.int .i64 0, .int .i64 0] 27)) w3.heap.size 0 0 from Box2.new rfl); obtain ⟨bx0, bx1, bx2, _, _, _⟩ := BX.out; clear g3 g3')
            | (go_at_call 35; (with_reducible refine (CW.out _ G3.out).mono ?_); rintro e w4 ⟨rfl, g4⟩; have g4' := g4.alloc (.cells #[.int .i64 0, .int .i64 0] 27); have G4 := Lib.hid (G3.out.trans g4'); have BX := Lib.hid (BX.out.gr g4'); have BC := Lib.hid (BC.out.gr g4'); have BU := Lib.hid (BU.out.gr g4'); have BS := Lib.hid (BS.out.gr g4'); have BT := Lib.hid (show Box2 (w4.alloc (.cells #[.int .i64 0, .int .i64 0] 27)) w4.heap.size 0 0 from Box2.new rfl); obtain ⟨bx0, bx1, bx2, _, _, _⟩ := BX.out; obtain ⟨bs0, bs1, _, _⟩ := BS.out; obtain ⟨bc0, bc1, _, _⟩ := BC.out; obtain ⟨bt0, bt1, _, _⟩ := BT.out; obtain ⟨bu0, bu1, _, _⟩ := BU.out; clear g4 g4')
            | (go_at_call 31; (with_reducible refine (CL.out _).mono ?_); rintro e w5 ⟨rfl, g5⟩; have G5 := Lib.hid (G4.out.trans g5); have BX := Lib.hid (BX.out.gr g5); have BC := Lib.hid (BC.out.gr g5); have BU := Lib.hid (BU.out.gr g5); have BS := Lib.hid (BS.out.gr g5); have BT := Lib.hid (BT.out.gr g5); obtain ⟨bs0, bs1, _, _⟩ := BS.out; obtain ⟨bc0, bc1, _, _⟩ := BC.out; obtain ⟨bt0, bt1, _, _⟩ := BT.out; obtain ⟨bu0, bu1, _, _⟩ := BU.out; clear g5)
            | (go_at_call 48; (with_reducible refine (CT.out _ G5.out).mono ?_); rintro e w6 ⟨a1, c1, rfl, h1, h2, rd, g6⟩; have RD := Lib.hid rd; clear rd; have G6 := Lib.hid (G5.out.trans g6); have BX := Lib.hid (BX.out.gr g6); have BC := Lib.hid (BC.out.gr g6); have BU := Lib.hid (BU.out.gr g6); have BS := Lib.hid (BS.out.gr g6); have BT := Lib.hid (BT.out.gr g6); clear g6)
            | (go_at_call 29; (with_reducible refine (CVT.out _ _ _ RD.out).mono ?_); rintro e w7 ⟨rfl, g7⟩; have G7 := Lib.hid (G6.out.trans g7); have BX := Lib.hid (BX.out.gr g7); have BC := Lib.hid (BC.out.gr g7); have BU := Lib.hid (BU.out.gr g7); have BS := Lib.hid (BS.out.gr g7); have BT := Lib.hid (BT.out.gr g7); have RD := Lib.hid (RD.out.gr g7); clear g7)
            | (go_at_call 47; (with_reducible refine (CPT.out _ _ _ RD.out).mono ?_); rintro e w8 ⟨rfl, g8⟩; have LB := World.block_lt_of_cell? w8 _ (BU.out.gr g8).1; simp only at LB; have g8' := (g8.alloc (.cells #[.int .i64 cN, .int .i64 cD] 27)).alloc (.cells #[.int .i64 uN, .int .i64 uD] 27); have G8 := Lib.hid (G7.out.trans g8'); have BX := Lib.hid (BX.out.gr g8'); have BC := Lib.hid (BC.out.gr g8'); have BU := Lib.hid (BU.out.gr g8'); have BS := Lib.hid (BS.out.gr g8'); have BT := Lib.hid (BT.out.gr g8'); have RD := Lib.hid (RD.out.gr g8'); have BE := Lib.hid (show Box2 ((w8.alloc (.cells #[.int .i64 cN, .int .i64 cD] 27)).alloc (.cells #[.int .i64 uN, .int .i64 uD] 27)) w8.heap.size cN cD from (Box2.new rfl).gr ((Gr.refl _).alloc _)); have BF := Lib.hid (show Box2 ((w8.alloc (.cells #[.int .i64 cN, .int .i64 cD] 27)).alloc (.cells #[.int .i64 uN, .int .i64 uD] 27)) (w8.heap.size + 1) uN uD from Box2.new (by simp)); obtain ⟨bc0, bc1, _, _⟩ := BC.out; obtain ⟨bu0, bu1, _, _⟩ := BU.out; obtain ⟨be0, be1, _, _⟩ := BE.out; obtain ⟨bf0, bf1, _, _⟩ := BF.out; clear g8 g8')
            | (go_at_call 49; (with_reducible refine (CR.out _ G8.out).mono ?_); rintro e w9 ⟨a2, c2, rfl, h3, h4, _, g9⟩; have G9 := Lib.hid (G8.out.trans g9); have BX := Lib.hid (BX.out.gr g9); have BC := Lib.hid (BC.out.gr g9); have BU := Lib.hid (BU.out.gr g9); have BS := Lib.hid (BS.out.gr g9); have BT := Lib.hid (BT.out.gr g9); have RD := Lib.hid (RD.out.gr g9); have BE := Lib.hid (BE.out.gr g9); have BF := Lib.hid (BF.out.gr g9); clear g9)
            | (go_at_call 16; refine (Awake_any _).mono ?_; rintro e w6 ⟨rfl, hg11⟩))
      go_ret
      exact ⟨rfl, G9.out.trans hg11⟩
    · rw [hre, show okM 0 (pairs n X (rz X Y s u)) = pairs n X (rz X Y s u) from rfl] at CR
      have CR := Lib.hid (show ∀ w1, Gr w w1 → Calls Try.prog 49 #[.slice a n c, .int .i64 s, .int .i64 u] w1 (fun e w' => ∃ a2 c2, e = .returned (.tuple #[.slice a2 n c2, .int .i64 0]) ∧ n ≤ c2 ∧ c2 ≤ maxLen ∧ RdM w' a2 n X (rz X Y s u) ∧ Gr w1 w') from fun w1 g => (CR.out w1 g).mono fun e w' k => ms_out k)
      obtain ⟨cpv, cpw⟩ := CPR.out hrb
      have CPV := Lib.hid cpv
      have CPW := Lib.hid cpw
      clear CPR hre hrb cpv cpw
      go_enter Try.func10, Try.ntmps10
      go_wp2_with (first
            | (go_at_call 15; refine (HL.out _).mono ?_; rintro e w' ⟨rfl, rfl⟩)
            | (go_at_call 29; (with_reducible refine (CV.out _ G0.out).mono ?_); rintro e w1 ⟨rfl, g1⟩; have G1 := Lib.hid (G0.out.trans g1); have BX := Lib.hid (BX.out.gr g1); clear g1)
            | (go_at_call 47; (with_reducible refine (CP.out _ G1.out).mono ?_); rintro e w2 ⟨rfl, g2⟩; have g2' := (g2.alloc (.cells #[.int .i64 cN, .int .i64 cD] 27)).alloc (.cells #[.int .i64 uN, .int .i64 uD] 27); have G2 := Lib.hid (G1.out.trans g2'); have BX := Lib.hid (BX.out.gr g2'); have BC := Lib.hid (show Box2 ((w2.alloc (.cells #[.int .i64 cN, .int .i64 cD] 27)).alloc (.cells #[.int .i64 uN, .int .i64 uD] 27)) w2.heap.size cN cD from (Box2.new rfl).gr ((Gr.refl _).alloc _)); have BU := Lib.hid (show Box2 ((w2.alloc (.cells #[.int .i64 cN, .int .i64 cD] 27)).alloc (.cells #[.int .i64 uN, .int .i64 uD] 27)) (w2.heap.size + 1) uN uD from Box2.new (by simp)); obtain ⟨bx0, bx1, bx2, _, _, _⟩ := BX.out; clear g2 g2')
            | (go_at_call 33; (with_reducible refine (CX.out _ G2.out).mono ?_); rintro e w3 ⟨rfl, g3⟩; have g3' := g3.alloc (.cells #[.int .i64 0, .int .i64 0] 27); have G3 := Lib.hid (G2.out.trans g3'); have BX := Lib.hid (BX.out.gr g3'); have BC := Lib.hid (BC.out.gr g3'); have BU := Lib.hid (BU.out.gr g3'); have BS := Lib.hid (show Box2 (w3.alloc (.cells #[.int .i64 0, .int .i64 0] 27)) w3.heap.size 0 0 from Box2.new rfl); obtain ⟨bx0, bx1, bx2, _, _, _⟩ := BX.out; clear g3 g3')
            | (go_at_call 35; (with_reducible refine (CW.out _ G3.out).mono ?_); rintro e w4 ⟨rfl, g4⟩; have g4' := g4.alloc (.cells #[.int .i64 0, .int .i64 0] 27); have G4 := Lib.hid (G3.out.trans g4'); have BX := Lib.hid (BX.out.gr g4'); have BC := Lib.hid (BC.out.gr g4'); have BU := Lib.hid (BU.out.gr g4'); have BS := Lib.hid (BS.out.gr g4'); have BT := Lib.hid (show Box2 (w4.alloc (.cells #[.int .i64 0, .int .i64 0] 27)) w4.heap.size 0 0 from Box2.new rfl); obtain ⟨bx0, bx1, bx2, _, _, _⟩ := BX.out; obtain ⟨bs0, bs1, _, _⟩ := BS.out; obtain ⟨bc0, bc1, _, _⟩ := BC.out; obtain ⟨bt0, bt1, _, _⟩ := BT.out; obtain ⟨bu0, bu1, _, _⟩ := BU.out; clear g4 g4')
            | (go_at_call 31; (with_reducible refine (CL.out _).mono ?_); rintro e w5 ⟨rfl, g5⟩; have G5 := Lib.hid (G4.out.trans g5); have BX := Lib.hid (BX.out.gr g5); have BC := Lib.hid (BC.out.gr g5); have BU := Lib.hid (BU.out.gr g5); have BS := Lib.hid (BS.out.gr g5); have BT := Lib.hid (BT.out.gr g5); obtain ⟨bs0, bs1, _, _⟩ := BS.out; obtain ⟨bc0, bc1, _, _⟩ := BC.out; obtain ⟨bt0, bt1, _, _⟩ := BT.out; obtain ⟨bu0, bu1, _, _⟩ := BU.out; clear g5)
            | (go_at_call 48; (with_reducible refine (CT.out _ G5.out).mono ?_); rintro e w6 ⟨a1, c1, rfl, h1, h2, rd, g6⟩; have RD := Lib.hid rd; clear rd; have G6 := Lib.hid (G5.out.trans g6); have BX := Lib.hid (BX.out.gr g6); have BC := Lib.hid (BC.out.gr g6); have BU := Lib.hid (BU.out.gr g6); have BS := Lib.hid (BS.out.gr g6); have BT := Lib.hid (BT.out.gr g6); clear g6)
            | (go_at_call 29; (with_reducible refine (CVT.out _ _ _ RD.out).mono ?_); rintro e w7 ⟨rfl, g7⟩; have G7 := Lib.hid (G6.out.trans g7); have BX := Lib.hid (BX.out.gr g7); have BC := Lib.hid (BC.out.gr g7); have BU := Lib.hid (BU.out.gr g7); have BS := Lib.hid (BS.out.gr g7); have BT := Lib.hid (BT.out.gr g7); have RD := Lib.hid (RD.out.gr g7); clear g7)
            | (go_at_call 47; (with_reducible refine (CPT.out _ _ _ RD.out).mono ?_); rintro e w8 ⟨rfl, g8⟩; have LB := World.block_lt_of_cell? w8 _ (BU.out.gr g8).1; simp only at LB; have g8' := (g8.alloc (.cells #[.int .i64 cN, .int .i64 cD] 27)).alloc (.cells #[.int .i64 uN, .int .i64 uD] 27); have G8 := Lib.hid (G7.out.trans g8'); have BX := Lib.hid (BX.out.gr g8'); have BC := Lib.hid (BC.out.gr g8'); have BU := Lib.hid (BU.out.gr g8'); have BS := Lib.hid (BS.out.gr g8'); have BT := Lib.hid (BT.out.gr g8'); have RD := Lib.hid (RD.out.gr g8'); have LE1 : w.heap.size ≤ w8.heap.size := Gr.size (G7.out.trans g8); have LE2 : w.heap.size ≤ w8.heap.size + 1 := Nat.le_succ_of_le LE1; have NE1 : w8.heap.size + 1 ≠ w8.heap.size := (by omega); have NE2 : w8.heap.size ≠ w8.heap.size + 1 := (by omega); have NE3 : w8.heap.size ≠ w2.heap.size := (by omega); have NE4 : w8.heap.size + 1 ≠ w2.heap.size := (by omega); have NE5 : w8.heap.size ≠ w2.heap.size + 1 := (by omega); have NE6 : w8.heap.size + 1 ≠ w2.heap.size + 1 := (by omega); have BE := Lib.hid (show Box2 ((w8.alloc (.cells #[.int .i64 cN, .int .i64 cD] 27)).alloc (.cells #[.int .i64 uN, .int .i64 uD] 27)) w8.heap.size cN cD from (Box2.new rfl).gr ((Gr.refl _).alloc _)); have BF := Lib.hid (show Box2 ((w8.alloc (.cells #[.int .i64 cN, .int .i64 cD] 27)).alloc (.cells #[.int .i64 uN, .int .i64 uD] 27)) (w8.heap.size + 1) uN uD from Box2.new (by simp)); obtain ⟨bc0, bc1, _, _⟩ := BC.out; obtain ⟨bu0, bu1, _, _⟩ := BU.out; obtain ⟨be0, be1, _, _⟩ := BE.out; obtain ⟨bf0, bf1, _, _⟩ := BF.out; clear g8 g8')
            | (go_at_call 49; (with_reducible refine (CR.out _ G8.out).mono ?_); rintro e w9 ⟨a2, c2, rfl, h3, h4, rd2, g9⟩; have RD2 := Lib.hid rd2; clear rd2; have G9 := Lib.hid (G8.out.trans g9); have BX := Lib.hid (BX.out.gr g9); have BC := Lib.hid (BC.out.gr g9); have BU := Lib.hid (BU.out.gr g9); have BS := Lib.hid (BS.out.gr g9); have BT := Lib.hid (BT.out.gr g9); have RD := Lib.hid (RD.out.gr g9); have BE := Lib.hid (BE.out.gr g9); have BF := Lib.hid (BF.out.gr g9); clear g9)
            | (go_at_call 29; (with_reducible refine (CPV.out _ _ _ RD2.out).mono ?_); rintro e w10 ⟨rfl, g10⟩; have G10 := Lib.hid (G9.out.trans g10); have BX := Lib.hid (BX.out.gr g10); have BC := Lib.hid (BC.out.gr g10); have BU := Lib.hid (BU.out.gr g10); have BS := Lib.hid (BS.out.gr g10); have BT := Lib.hid (BT.out.gr g10); have RD := Lib.hid (RD.out.gr g10); have BE := Lib.hid (BE.out.gr g10); have BF := Lib.hid (BF.out.gr g10); have RD2 := Lib.hid (RD2.out.gr g10); clear g10)
            | (go_at_call 47; (with_reducible refine (CPW.out _ _ _ RD2.out).mono ?_); rintro e w11 ⟨rfl, g11⟩; have G11 := Lib.hid (G10.out.trans g11); have BX := Lib.hid (BX.out.gr g11); have BC := Lib.hid (BC.out.gr g11); have BU := Lib.hid (BU.out.gr g11); have BS := Lib.hid (BS.out.gr g11); have BT := Lib.hid (BT.out.gr g11); have RD := Lib.hid (RD.out.gr g11); have BE := Lib.hid (BE.out.gr g11); have BF := Lib.hid (BF.out.gr g11); have RD2 := Lib.hid (RD2.out.gr g11); have GZ := Lib.hid (((((G11.out.setCell (p := ⟨w8.heap.size, 0, none⟩) LE1 (.int .i64 cN)).setCell (p := ⟨w8.heap.size, 1, none⟩) LE1 (.int .i64 cD)).setCell (p := ⟨w8.heap.size + 1, 0, none⟩) LE2 (.int .i64 uN)).setCell (p := ⟨w8.heap.size + 1, 1, none⟩) LE2 (.int .i64 uD))); obtain ⟨z0, z1, _, _⟩ := ((BE.out.put (x' := cN) (y' := cD)).far NE1 (.int .i64 uN) (.int .i64 uD)); obtain ⟨z2, z3, _, _⟩ := ((BF.out.far NE2 (.int .i64 cN) (.int .i64 cD)).put (x' := uN) (y' := uD)); obtain ⟨z4, z5, _, _⟩ := ((BC.out.far NE3 (.int .i64 cN) (.int .i64 cD)).far NE4 (.int .i64 uN) (.int .i64 uD)); obtain ⟨z6, z7, _, _⟩ := ((BU.out.far NE5 (.int .i64 cN) (.int .i64 cD)).far NE6 (.int .i64 uN) (.int .i64 uD)); obtain ⟨be0, be1, _, _⟩ := BE.out; obtain ⟨bf0, bf1, _, _⟩ := BF.out; clear g11)
            | (go_at_call 16; refine (Awake_any _).mono ?_; rintro e w6 ⟨rfl, hg11⟩))
      go_ret
      exact ⟨rfl, GZ.out.trans hg11⟩

set_option maxRecDepth 100000 in
theorem lifted (os : Os) (started : os.Started) (H : Type) (enc : TypeId × Value → H) :
    ReturnsInHanded {} Try.checked os 10 .any (Rows.topTrackSpec.pre6 enc Try.prog Try.f10 Rows.topTrackRow.domain false) (Rows.topTrackSpec.post enc Try.prog Try.f10 false true false false) := by
  refine returnsInHanded_of_change (C := Try.checked) own started (by kernel_rfl) Try.func10
    (ChangeSpec.witness6 (enc := enc) (C := Try.checked) false ⟨#[], #[.slice none 0 0, .agg #[.int .i64 0, .int .i64 0, .int .i64 0], .int .i64 0, .int .i64 0], []⟩ 8 (by kernel_rfl) (by kernel_rfl) (by kernel_rfl) (by kernel_rfl)) ?_
  intro W base args ds gs before hval0 hW hcnd _
  have hval : ∀ (j : Nat) t v, Try.f10.params[j]? = some t → args[j]? = some v → Value.okWide Try.prog W .any base t v := hval0
  have hW' := hW
  obtain ⟨p, q, hA0, hV, rfl, hfz, hnd⟩ := hW
  have hA : DataW.TrodAll enc Try.prog W 0 (fun _ => true) true Try.f10.params.toList args.toList ds p := hA0
  rw [Try.params10] at hA hval
  obtain ⟨v0, vs0, d0, ds0, p0, q0, hargs, rfl, rfl, h0, r0⟩ := trodAll_cons hA
  obtain ⟨v1, vs1, d1, ds1, p1, q1, rfl, rfl, rfl, h1, r1⟩ := trodAll_cons r0
  obtain ⟨v2, vs2, d2, ds2, p2, q2, rfl, rfl, rfl, h2, r2⟩ := trodAll_cons r1
  obtain ⟨v3, vs3, d3, ds3, p3, q3, rfl, rfl, rfl, h3, r3⟩ := trodAll_cons r2
  obtain ⟨rfl, rfl, rfl⟩ := trodAll_nil r3
  obtain rfl : args = #[v0, v1, v2, v3] := by cases args; simp_all
  obtain ⟨rfl, rfl⟩ := trodVars_none hV
  obtain ⟨a0, len0, cap0, rfl⟩ := okWide_slice Try.underlying22 (hval 0 22 v0 rfl rfl)
  have k0 := h0
  have lt0 : ∀ x ∈ p0, x.block < W.heap.size := by obtain ⟨m, hm⟩ := k0; exact DataW.trod_lt m _ _ _ hm
  obtain ⟨x0, y0, wn0, _, wr0⟩ : ∃ f g : Nat → Int, len0 ≤ 9223372036854775807 ∧ (∀ i, i < len0 → (Lit.int .i64 (f i)).wf = true ∧ (Lit.int .i64 (g i)).wf = true) ∧ RdM W a0 len0 f g := by
    obtain ⟨fuel, hf⟩ := h0
    exact RdM.of_trod Try.underlying22 Try.underlying56 (by kernel_rfl) ⟨rfl, rfl⟩ ⟨rfl, rfl⟩ (by kernel_rfl) Try.underlying3 hf
  have k1 := h1
  have lt1 : ∀ x ∈ p1, x.block < W.heap.size := by obtain ⟨m, hm⟩ := k1; exact DataW.trod_lt m _ _ _ hm
  obtain ⟨x1, y1, z1, rfl, wx1, wy1, wz1⟩ := open_triple Try.underlying37 (by kernel_rfl) (by kernel_rfl) rfl rfl rfl Try.underlying3 (hval 1 37 v1 rfl rfl) h1
  obtain ⟨a2, rfl, rfl, rfl, w2⟩ := open_int Try.underlying3 (hval 2 3 v2 rfl rfl) h2
  obtain ⟨a3, rfl, rfl, rfl, w3⟩ := open_int Try.underlying3 (hval 3 3 v3 rfl rfl) h3
  clear hA0 hval0
  refine (walk a0 len0 cap0 x0 y0 x1 y1 z1 a2 a3 W wn0 wr0).mono fun e W' ⟨he, bel⟩ => ?_
  subst he
  exact ⟨_, rfl, _, _, _, [], _, [], hW', trodAll_mk1 (shut_bool Try.underlying4 _), (trodAll_cons_mk (Below.trod laidOut (by kernel_rfl) (of_decide_eq_true (by kernel_rfl)) k0 bel lt0) (trodAll_cons_mk (Below.trod laidOut (by kernel_rfl) (of_decide_eq_true (by kernel_rfl)) k1 bel lt1) (trodAll_cons_mk (shut_int Try.underlying3 w2) (trodAll_cons_mk (shut_int Try.underlying3 w3) trodAll_mk0)))), rfl, bel.frame _, fun h => by cases h⟩

theorem over : Rows.topTrackRow.holds Try.pinned (OpenSpec.ofChange Rows.topTrackSpec) :=
  OpenClaim.holds_of_wide 10 Try.f10 rfl rfl rfl rfl rfl rfl rfl ⟨rfl, rfl, rfl, rfl, rfl⟩ rfl rfl rfl rfl rfl (by kernel_rfl) Try.func10 (by kernel_rfl)
    (of_decide_eq_true (by kernel_rfl)) (by unfold Func.isWrapper; first | (rw [if_pos (by decide +kernel)]; kernel_rfl) | (rw [if_neg (by decide +kernel)]; exact ⟨rfl, rfl⟩))
    (fun os started H enc _ => lifted os started H enc)

/-- The statement. -/
theorem proved : Rows.TopTrackSaid := over
end Go.Proofs.Ytbhndfnfohoidaa.topTrack
