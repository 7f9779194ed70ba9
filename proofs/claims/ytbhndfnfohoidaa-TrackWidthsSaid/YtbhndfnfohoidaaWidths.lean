/- Proved: TrackWidths returns true at all points, every line and every list of ints, and its arguments read afterwards as before. Conditions: none. -/
import Derived.Test.YtbhndfnfohoidaaPB
import Derived.Test.YtbhndfnfohoidaaW32
import Derived.Test.YtbhndfnfohoidaaW28
import Derived.Test.YtbhndfnfohoidaaW16
import Derived.Test.YtbhndfnfohoidaaW21
import Derived.Test.YtbhndfnfohoidaaP8
import Derived.ProofKit
import Derived.OpenShut
import Derived.ShutString
import Derived.ChangeOld
import Derived.Below
namespace Go.Proofs.Ytbhndfnfohoidaa.trackWidths
open Go.ChangeShapes Go.WideShapes Go.ChangeAt Go.RowKit Go.Firn
open Go.ChangeMaps (open_string shut_string)

theorem own : ownKnob Try.prog.godebug = none := by kernel_rfl
theorem laidOut : laidOutB Try.prog = true := by kernel_rfl
theorem rowLe {w : World} {a : Option Addr} {len cap : Nat} {zs : List Int} (h : IsRow w a len cap zs) : len ≤ cap := by
  rcases h with ⟨_, rfl, rfl, _⟩ | ⟨_, _, h, _⟩
  · exact Nat.le_refl _
  · exact h

set_option maxHeartbeats 4000000 in
set_option maxRecDepth 100000 in
theorem walk (a : Option Addr) (n c : Nat) (X Y : Nat → Int) (A B D : Int) (a2 : Option Addr) (m c2 : Nat) (l : Nat → Int) (w : World) (hn : n ≤ 9223372036854775807) (hr : RdM w a n X Y)
    (hm : m ≤ 9223372036854775807) (hmc : m ≤ c2) (hl : RdI w a2 m l) :
    Calls Try.prog 9 #[.slice a n c, .agg #[.int .i64 A, .int .i64 B, .int .i64 D], .slice a2 m c2] w (RetB true w) := by
  have HL := Lib.hid (fun w1 => Long_any a n c w1 hn)
  obtain ⟨W0, hW0⟩ : ∃ W0, (w.alloc (.cells #[.int .i64 A, .int .i64 B, .int .i64 D] 37)) = W0 := ⟨_, rfl⟩
  have G0 := Lib.hid (show Gr w W0 by rw [← hW0]; exact (Gr.refl w).alloc _)
  have BX := Lib.hid (show Box3 W0 w.heap.size A B D by rw [← hW0]; exact Box3.new rfl)
  by_cases h1 : 60 < n
  · have e1 : decide (60 < n) = true := by simpa using h1
    rw [e1] at HL
    clear e1
    go_enter Try.func9, Try.ntmps9
    go_wp2_with (first
      | (go_at_call 15; refine (HL.out _).mono ?_; rintro e w' ⟨rfl, rfl⟩)
      | (go_at_call 16; refine (Awake_any _).mono ?_; rintro e w6 ⟨rfl, hg11⟩))
    go_ret
    exact ⟨rfl, G0.out.trans hg11⟩
  have e1 : decide (60 < n) = false := by simpa using h1
  rw [e1] at HL
  by_cases h2 : 60 < m
  · have d2 : (60 : Int) < m := by omega
    clear e1 h2 h1
    go_enter Try.func9, Try.ntmps9
    go_wp2_with (first
      | (go_at_call 15; refine (HL.out _).mono ?_; rintro e w' ⟨rfl, rfl⟩)
      | (go_at_call 16; refine (Awake_any _).mono ?_; rintro e w6 ⟨rfl, hg11⟩))
    go_ret
    exact ⟨rfl, G0.out.trans hg11⟩
  have d2 : ¬ (60 : Int) < m := by omega
  have n60 : n ≤ 1000 := by omega
  have CV := Lib.hid (fun w1 (g : Gr w w1) => refValid_any a n c X Y w1 n60 (hr.gr g))
  cases hv : vP n X Y with
  | false =>
    rw [hv] at CV
    clear e1 h2 h1 hr hl hv hn hm
    go_enter Try.func9, Try.ntmps9
    go_wp2_with (first
      | (go_at_call 15; refine (HL.out _).mono ?_; rintro e w' ⟨rfl, rfl⟩)
      | (go_at_call 29; refine (CV.out _ G0.out).mono ?_; rintro e w1 ⟨rfl, g1⟩; have G1 := Lib.hid (G0.out.trans g1); clear g1)
      | (go_at_call 16; refine (Awake_any _).mono ?_; rintro e w6 ⟨rfl, hg11⟩))
    go_ret
    exact ⟨rfl, G1.out.trans hg11⟩
  | true =>
  rw [hv] at CV
  have V := vP_iff.1 hv
  obtain ⟨q, hq, hp⟩ := bst_some V
  obtain ⟨⟨x1, x2⟩, hx⟩ := axis_ok V
  have pb := pr_bd V.few V.ok hp
  obtain ⟨v, e, hv0, he0, ev, ee, _, _, he4⟩ := told_any V
  have WB := witS_bd (Y := Y) V.ok (wits_wit (n := n) (X := X))
  obtain ⟨cw1, cw2⟩ := cost_width V hq
  have hn2 : (n : Int) ≤ 12 := by have := V.few; omega
  have C21 := Lib.hid (show ∀ w1, Gr w w1 → Calls Try.prog 21 #[.slice a n c] w1 (RetRE (witS X Y (wits n X)).N (witS X Y (wits n X)).D 0 w1) from fun w1 g => by
    have h := Narrowest_any a n c X Y w1 n60 (hr.gr g)
    unfold naN naD naE at h
    rw [hv] at h
    exact h)
  have C40 := Lib.hid (show ∀ w1, Gr w w1 → Calls Try.prog 40 #[.slice a n c] w1 (RetLE (axL n X Y (witS X Y (wits n X)).l).A (axL n X Y (witS X Y (wits n X)).l).B (axL n X Y (witS X Y (wits n X)).l).D 0 w1) from fun w1 g => by
    have h := Axis_any a n c X Y w1 n60 (hr.gr g)
    rw [leE_ok V] at h
    exact h)
  have C23 := Lib.hid (fun w1 (g : Gr w w1) => Witness_any a n c X Y w1 n60 (hr.gr g))
  have C19 := Lib.hid (show ∀ w1, Gr w w1 → Calls Try.prog 19 #[.slice a n c] w1 (RetRE (pN n X Y q) (pE n X Y q) 0 w1) from fun w1 g => by
    have h := Least_any a n c X Y w1 n60 (hr.gr g)
    have e1 : leN n X Y = pN n X Y q := by unfold leN; rw [hv, hq]; rfl
    have e2 : leD n X Y = pE n X Y q := by unfold leD; rw [hv, hq]; rfl
    rw [e1, e2, leE_ok V] at h
    exact h)
  have CX := Lib.hid (show ∀ w1, Gr w w1 → Calls Try.prog 35 #[.slice a n c, .agg #[.int .i64 (axL n X Y (witS X Y (wits n X)).l).A, .int .i64 (axL n X Y (witS X Y (wits n X)).l).B, .int .i64 (axL n X Y (witS X Y (wits n X)).l).D]] w1 (RetRE (witS X Y (wits n X)).N (witS X Y (wits n X)).D 0 w1) from fun w1 g => by
    have h := Width_any a n c X Y (axL n X Y (witS X Y (wits n X)).l).A (axL n X Y (witS X Y (wits n X)).l).B (axL n X Y (witS X Y (wits n X)).l).D w1 n60 (hr.gr g)
    rw [asE_zero V hx, x1, x2] at h
    exact h)
  have CW := Lib.hid (fun w1 (g : Gr w w1) => Width_any a n c X Y A B D w1 n60 (hr.gr g))
  have CT := Lib.hid (fun w1 (g : Gr w w1) => Tells_any a n c X Y a2 m c2 l w1 n60 (by omega) hmc (hr.gr g) (hl.gr g))
  have CF := Lib.hid (fun w1 (g : Gr w w1) a3 c3 (h3 : (wiL n X Y).length ≤ c3) (h1 : (wiL n X Y).length ≤ 1000) (h : RdI w1 a3 (wiL n X Y).length (nf (wiL n X Y))) => Tells_any a n c X Y a3 (wiL n X Y).length c3 (nf (wiL n X Y)) w1 n60 h1 h3 (hr.gr g) h)
  have M1 := mul_bd (a := pN n X Y q) (b := (witS X Y (wits n X)).D) (A := 2520000000) (B := 400) (by omega) (by omega) (by omega) (by omega)
  have M2 := mul_bd (a := (witS X Y (wits n X)).N) (b := pE n X Y q) (A := 800000) (B := 200) (by omega) (by omega) (by omega) (by omega)
  have M3 := mul_bd (a := (witS X Y (wits n X)).N) (b := (n : Int)) (A := 800000) (B := 12) (by omega) (by omega) (by omega) (by omega)
  have M4 := mul_bd (a := (witS X Y (wits n X)).N * n) (b := pE n X Y q) (A := 9600000) (B := 200) (by omega) (by omega) (by omega) (by omega)
  have L1 := Lib.hid (show ∀ w', Calls Try.prog 46 #[.agg #[.int .i64 (pN n X Y q), .int .i64 (pE n X Y q)], .agg #[.int .i64 (witS X Y (wits n X)).N, .int .i64 (witS X Y (wits n X)).D]] w' (RetB false w') from fun w' => by
    have h := refLess_any (pN n X Y q) (pE n X Y q) (witS X Y (wits n X)).N (witS X Y (wits n X)).D w' (by unfold Sz; omega) (by unfold Sz; omega)
    rw [decide_eq_false cw1] at h
    exact h)
  have L2 := Lib.hid (show ∀ w', Calls Try.prog 46 #[.agg #[.int .i64 ((witS X Y (wits n X)).N * n), .int .i64 (witS X Y (wits n X)).D], .agg #[.int .i64 (pN n X Y q), .int .i64 (pE n X Y q)]] w' (RetB false w') from fun w' => by
    have h := refLess_any ((witS X Y (wits n X)).N * n) (witS X Y (wits n X)).D (pN n X Y q) (pE n X Y q) w' (by unfold Sz; omega) (by unfold Sz; omega)
    rw [decide_eq_false cw2] at h
    exact h)
  have q5 : wrap64 ((witS X Y (wits n X)).N * n) = (witS X Y (wits n X)).N * n := IntWalk.wrap64_in _ (by omega)
  have q6 : IntKind.i64.wrap ((witS X Y (wits n X)).N * n) = (witS X Y (wits n X)).N * n := IntWalk.i64_in _ (by omega)
  have WE := Lib.hid (show (asE n X Y A B D ≠ 0) ∨ (asE n X Y A B D = 0 ∧ 0 < D ∧ D ≤ 10000) by
    by_cases h : asE n X Y A B D = 0
    · have := (asE_ok h).2.2.2; exact .inr ⟨h, by omega, by omega⟩
    · exact .inl h)
  have L3 := Lib.hid (show asE n X Y A B D = 0 → ∀ w', Calls Try.prog 46 #[.agg #[.int .i64 (rN (maxA X Y A B D n) D), .int .i64 (rD (maxA X Y A B D n) D)], .agg #[.int .i64 (witS X Y (wits n X)).N, .int .i64 (witS X Y (wits n X)).D]] w' (RetB false w') from fun hE w' => by
    have IL := (asE_ok hE).2
    have hD : 0 < D := by have := IL.2.2.1; omega
    have mb := maxA_bd V.ok IL (Nat.le_refl n)
    have r1 := rN_nonneg (d := D) mb.1
    have r2 := rN_le (d := D) mb.1
    have r3 := rD_pos (maxA X Y A B D n) hD
    have r4 := rD_le (maxA X Y A B D n) hD
    have D2 := IL.2.2.2
    have k1 := mul_bd (a := rN (maxA X Y A B D n) D) (b := (witS X Y (wits n X)).D) (A := 210000000) (B := 400) (by omega) (by omega) (by omega) (by omega)
    have k2 := mul_bd (a := (witS X Y (wits n X)).N) (b := rD (maxA X Y A B D n) D) (A := 800000) (B := 10000) (by omega) (by omega) (by omega) (by omega)
    have h := refLess_any (rN (maxA X Y A B D n) D) (rD (maxA X Y A B D n) D) (witS X Y (wits n X)).N (witS X Y (wits n X)).D w' (by unfold Sz; omega) (by unfold Sz; omega)
    rw [decide_eq_false (narrow_any V hD)] at h
    exact h)
  have TE := Lib.hid (show teE n X Y m l = 2 ∨ teE n X Y m l = 0 by
    unfold teE
    rw [hv, if_pos rfl]
    split
    · exact .inr rfl
    · exact .inl rfl)
  have L4 := Lib.hid (show teE n X Y m l = 0 → ∀ w', Calls Try.prog 46 #[.agg #[.int .i64 (witS X Y (wits n X)).N, .int .i64 (witS X Y (wits n X)).D], .agg #[.int .i64 (teN n X Y m l), .int .i64 (teD n X Y m l)]] w' (RetB false w') from fun hE w' => by
    have hw : witB n X m l = true := by
      cases hb : witB n X m l with
      | true => rfl
      | false => unfold teE at hE; rw [hv, hb] at hE; simp at hE
    have eN : teN n X Y m l = tlN X Y m l := by unfold teN; rw [hv, hw]; rfl
    have eD : teD n X Y m l = tlD X Y m l := by unfold teD; rw [hv, hw]; rfl
    rw [eN, eD]
    have tb := tl_bd V.ok hw
    have k1 := mul_bd (a := (witS X Y (wits n X)).N) (b := tlD X Y m l) (A := 800000) (B := 400) (by omega) (by omega) (by omega) (by omega)
    have k2 := mul_bd (a := tlN X Y m l) (b := (witS X Y (wits n X)).D) (A := 800000) (B := 400) (by omega) (by omega) (by omega) (by omega)
    have h := refLess_any (witS X Y (wits n X)).N (witS X Y (wits n X)).D (tlN X Y m l) (tlD X Y m l) w' (by unfold Sz; omega) (by unfold Sz; omega)
    rw [decide_eq_false (tell_any V hw)] at h
    exact h)
  have W2 := Lib.hid (show n = 2 → wiE n X Y = 5 ∧ (witS X Y (wits n X)).N = 0 from fun h => wi_two V h)
  have W3 := Lib.hid (show n ≠ 2 → wiE n X Y = 0 ∧ teN n X Y (wiL n X Y).length (nf (wiL n X Y)) = (witS X Y (wits n X)).N ∧ teD n X Y (wiL n X Y).length (nf (wiL n X Y)) = (witS X Y (wits n X)).D ∧ teE n X Y (wiL n X Y).length (nf (wiL n X Y)) = 0 ∧ (wiL n X Y).length ≤ 3 from fun h => wi_more V h)
  have f1 : ¬ (witS X Y (wits n X)).D < 1 := by have := WB.2.1; omega
  have f2 : ¬ pE n X Y q < 1 := by have := pb.2.1; omega
  have f3 : ¬ 10000 < (witS X Y (wits n X)).D := by have := WB.2.2; omega
  have f4 : ¬ 10000 < pE n X Y q := by have := pb.2.2; omega
  clear e1 h2 h1 hr hl hv hn hm V hq hp x1 x2 hx pb hv0 he0 ev ee he4 WB cw1 cw2 M1 M2 M3 M4 hn2 n60
  generalize (axL n X Y (witS X Y (wits n X)).l).A = xA at *
  generalize (axL n X Y (witS X Y (wits n X)).l).B = xB at *
  generalize (axL n X Y (witS X Y (wits n X)).l).D = xD at *
  generalize (witS X Y (wits n X)).N = N1 at *
  generalize (witS X Y (wits n X)).D = D1 at *
  generalize pN n X Y q = N2 at *
  generalize pE n X Y q = D2 at *
  generalize teN n X Y m l = tN at *
  generalize teD n X Y m l = tD at *
  generalize teE n X Y m l = tE at *
  generalize teN n X Y (wiL n X Y).length (nf (wiL n X Y)) = sN at *
  generalize teD n X Y (wiL n X Y).length (nf (wiL n X Y)) = sD at *
  generalize teE n X Y (wiL n X Y).length (nf (wiL n X Y)) = sE at *
  generalize nf (wiL n X Y) = oF at *
  generalize (wiL n X Y).length = oL at *
  generalize wiE n X Y = oE at *
  by_cases h2 : n = 2
  · obtain ⟨oe, n0⟩ := W2.out h2
    have k1 : ((n : Int) == 2) = true := by simp; omega
    have k5 : (N1 == 0) = true := by simpa using n0
    have k6 : (N1 != 0) = false := by simpa using n0
    clear W2 W3 CF n0
    subst oe h2
    have L2' := Lib.hid (show ∀ w', Calls Try.prog 46 #[.agg #[.int .i64 (N1 * 2), .int .i64 D1], .agg #[.int .i64 N2, .int .i64 D2]] w' (RetB false w') from L2.out)
    clear L2
    have L2 := L2'
    clear L2'
    have q5 : wrap64 (N1 * 2) = N1 * 2 := q5
    have q6 : IntKind.i64.wrap (N1 * 2) = N1 * 2 := q6
    rcases WE.out with we | ⟨we, _, _⟩
    · have g1 : (asE 2 X Y A B D != 0) = true := by simpa using we
      have g2 : (asE 2 X Y A B D == 0) = false := by simpa using we
      clear L3 WE we
      generalize okN (asE 2 X Y A B D) (rN (maxA X Y A B D 2) D) = vN at *
      generalize okN (asE 2 X Y A B D) (rD (maxA X Y A B D 2) D) = vD at *
      generalize asE 2 X Y A B D = E3 at *
      rcases TE.out with te | te
      · subst te
        clear L4 TE
        go_enter Try.func9, Try.ntmps9
        go_wp2_with (first
          | (go_at_call 15; refine (HL.out _).mono ?_; rintro e w' ⟨rfl, rfl⟩)
          | (go_at_call 29; refine (CV.out _ G0.out).mono ?_; rintro e w1 ⟨rfl, g⟩; have G := Lib.hid (G0.out.trans g); have BX := Lib.hid (BX.out.gr g); clear g)
          | (go_at_call 21; refine (C21.out _ G.out).mono ?_; rintro e w2 ⟨rfl, g'⟩; have g := g'.alloc (.cells #[.int .i64 N1, .int .i64 D1] 27); have G := Lib.hid (G.out.trans g); have BX := Lib.hid (BX.out.gr g); have B7 := Lib.hid (show Box2 (w2.alloc (.cells #[.int .i64 N1, .int .i64 D1] 27)) w2.heap.size N1 D1 from Box2.new rfl); clear g g')
          | (go_at_call 40; refine (C40.out _ G.out).mono ?_; rintro e w3 ⟨rfl, g'⟩; have g := g'.alloc (.cells #[.int .i64 xA, .int .i64 xB, .int .i64 xD] 37); have G := Lib.hid (G.out.trans g); have BX := Lib.hid (BX.out.gr g); have B7 := Lib.hid (B7.out.gr g); have B9 := Lib.hid (show Box3 (w3.alloc (.cells #[.int .i64 xA, .int .i64 xB, .int .i64 xD] 37)) w3.heap.size xA xB xD from Box3.new rfl); clear g g')
          | (go_at_call 23; refine (C23.out _ G.out).mono ?_; rintro e w4 ⟨a5, c5, rfl, o1, o2, rd, g⟩; have G := Lib.hid (G.out.trans g); have R5 := Lib.hid rd; have O1 := Lib.hid o1; have BX := Lib.hid (BX.out.gr g); have B7 := Lib.hid (B7.out.gr g); have B9 := Lib.hid (B9.out.gr g); clear g rd o1 o2)
          | (go_at_call 19; refine (C19.out _ G.out).mono ?_; rintro e w5 ⟨rfl, g'⟩; have g := g'.alloc (.cells #[.int .i64 N2, .int .i64 D2] 27); have G := Lib.hid (G.out.trans g); have BX := Lib.hid (BX.out.gr g); have B7 := Lib.hid (B7.out.gr g); have B9 := Lib.hid (B9.out.gr g); have R5 := Lib.hid (R5.out.gr g); have B13 := Lib.hid (show Box2 (w5.alloc (.cells #[.int .i64 N2, .int .i64 D2] 27)) w5.heap.size N2 D2 from Box2.new rfl); obtain ⟨zB70, zB71, _, _⟩ := B7.out; obtain ⟨zB90, zB91, zB92, _, _, _⟩ := B9.out; clear g g')
          | (go_at_call 35; (with_reducible refine (CX.out _ G.out).mono ?_); rintro e w6 ⟨rfl, g'⟩; have g := g'.alloc (.cells #[.int .i64 N1, .int .i64 D1] 27); have G := Lib.hid (G.out.trans g); have BX := Lib.hid (BX.out.gr g); have B7 := Lib.hid (B7.out.gr g); have B13 := Lib.hid (B13.out.gr g); have R5 := Lib.hid (R5.out.gr g); obtain ⟨zB70, zB71, _, _⟩ := B7.out; obtain ⟨zB130, zB131, _, _⟩ := B13.out; clear g g')
          | (go_at_call 46; (with_reducible refine (L1.out _).mono ?_); rintro e w7 ⟨rfl, g⟩; have G := Lib.hid (G.out.trans g); have BX := Lib.hid (BX.out.gr g); have B7 := Lib.hid (B7.out.gr g); have B13 := Lib.hid (B13.out.gr g); have R5 := Lib.hid (R5.out.gr g); obtain ⟨zB70, zB71, _, _⟩ := B7.out; obtain ⟨zB130, zB131, _, _⟩ := B13.out; clear g)
          | (go_at_call 46; (with_reducible refine (L2.out _).mono ?_); rintro e w8 ⟨rfl, g⟩; have G := Lib.hid (G.out.trans g); have BX := Lib.hid (BX.out.gr g); have B7 := Lib.hid (B7.out.gr g); have R5 := Lib.hid (R5.out.gr g); obtain ⟨zBX0, zBX1, zBX2, _, _, _⟩ := BX.out; obtain ⟨zB70, zB71, _, _⟩ := B7.out; clear g)
          | (go_at_call 35; (with_reducible refine (CW.out _ G.out).mono ?_); rintro e w10 ⟨rfl, g'⟩; have g := g'.alloc (.cells #[.int .i64 vN, .int .i64 vD] 27); have G := Lib.hid (G.out.trans g); have B7 := Lib.hid (B7.out.gr g); have B18 := Lib.hid (show Box2 (w10.alloc (.cells #[.int .i64 vN, .int .i64 vD] 27)) w10.heap.size vN vD from Box2.new rfl); clear g g')
          | (go_at_call 17; (with_reducible refine (CT.out _ G.out).mono ?_); rintro e w11 ⟨rfl, g'⟩; have g := g'.alloc (.cells #[.int .i64 tN, .int .i64 tD] 27); have G := Lib.hid (G.out.trans g); have B7 := Lib.hid (B7.out.gr g); have B18 := Lib.hid (B18.out.gr g); obtain ⟨zB70, zB71, _, _⟩ := B7.out; obtain ⟨zB180, zB181, _, _⟩ := B18.out; have B19 := Lib.hid (show Box2 (w11.alloc (.cells #[.int .i64 tN, .int .i64 tD] 27)) w11.heap.size tN tD from Box2.new rfl); clear g g')
          | (go_at_call 16; refine (Awake_any _).mono ?_; rintro e w14 ⟨rfl, hg11⟩))
        go_ret
        exact ⟨rfl, G.out.trans hg11⟩
      · have LL4 := Lib.hid (L4.out te)
        clear TE L4
        subst te
        go_enter Try.func9, Try.ntmps9
        go_wp2_with (first
          | (go_at_call 15; refine (HL.out _).mono ?_; rintro e w' ⟨rfl, rfl⟩)
          | (go_at_call 29; refine (CV.out _ G0.out).mono ?_; rintro e w1 ⟨rfl, g⟩; have G := Lib.hid (G0.out.trans g); have BX := Lib.hid (BX.out.gr g); clear g)
          | (go_at_call 21; refine (C21.out _ G.out).mono ?_; rintro e w2 ⟨rfl, g'⟩; have g := g'.alloc (.cells #[.int .i64 N1, .int .i64 D1] 27); have G := Lib.hid (G.out.trans g); have BX := Lib.hid (BX.out.gr g); have B7 := Lib.hid (show Box2 (w2.alloc (.cells #[.int .i64 N1, .int .i64 D1] 27)) w2.heap.size N1 D1 from Box2.new rfl); clear g g')
          | (go_at_call 40; refine (C40.out _ G.out).mono ?_; rintro e w3 ⟨rfl, g'⟩; have g := g'.alloc (.cells #[.int .i64 xA, .int .i64 xB, .int .i64 xD] 37); have G := Lib.hid (G.out.trans g); have BX := Lib.hid (BX.out.gr g); have B7 := Lib.hid (B7.out.gr g); have B9 := Lib.hid (show Box3 (w3.alloc (.cells #[.int .i64 xA, .int .i64 xB, .int .i64 xD] 37)) w3.heap.size xA xB xD from Box3.new rfl); clear g g')
          | (go_at_call 23; refine (C23.out _ G.out).mono ?_; rintro e w4 ⟨a5, c5, rfl, o1, o2, rd, g⟩; have G := Lib.hid (G.out.trans g); have R5 := Lib.hid rd; have O1 := Lib.hid o1; have BX := Lib.hid (BX.out.gr g); have B7 := Lib.hid (B7.out.gr g); have B9 := Lib.hid (B9.out.gr g); clear g rd o1 o2)
          | (go_at_call 19; refine (C19.out _ G.out).mono ?_; rintro e w5 ⟨rfl, g'⟩; have g := g'.alloc (.cells #[.int .i64 N2, .int .i64 D2] 27); have G := Lib.hid (G.out.trans g); have BX := Lib.hid (BX.out.gr g); have B7 := Lib.hid (B7.out.gr g); have B9 := Lib.hid (B9.out.gr g); have R5 := Lib.hid (R5.out.gr g); have B13 := Lib.hid (show Box2 (w5.alloc (.cells #[.int .i64 N2, .int .i64 D2] 27)) w5.heap.size N2 D2 from Box2.new rfl); obtain ⟨zB70, zB71, _, _⟩ := B7.out; obtain ⟨zB90, zB91, zB92, _, _, _⟩ := B9.out; clear g g')
          | (go_at_call 35; (with_reducible refine (CX.out _ G.out).mono ?_); rintro e w6 ⟨rfl, g'⟩; have g := g'.alloc (.cells #[.int .i64 N1, .int .i64 D1] 27); have G := Lib.hid (G.out.trans g); have BX := Lib.hid (BX.out.gr g); have B7 := Lib.hid (B7.out.gr g); have B13 := Lib.hid (B13.out.gr g); have R5 := Lib.hid (R5.out.gr g); obtain ⟨zB70, zB71, _, _⟩ := B7.out; obtain ⟨zB130, zB131, _, _⟩ := B13.out; clear g g')
          | (go_at_call 46; (with_reducible refine (L1.out _).mono ?_); rintro e w7 ⟨rfl, g⟩; have G := Lib.hid (G.out.trans g); have BX := Lib.hid (BX.out.gr g); have B7 := Lib.hid (B7.out.gr g); have B13 := Lib.hid (B13.out.gr g); have R5 := Lib.hid (R5.out.gr g); obtain ⟨zB70, zB71, _, _⟩ := B7.out; obtain ⟨zB130, zB131, _, _⟩ := B13.out; clear g)
          | (go_at_call 46; (with_reducible refine (L2.out _).mono ?_); rintro e w8 ⟨rfl, g⟩; have G := Lib.hid (G.out.trans g); have BX := Lib.hid (BX.out.gr g); have B7 := Lib.hid (B7.out.gr g); have R5 := Lib.hid (R5.out.gr g); obtain ⟨zBX0, zBX1, zBX2, _, _, _⟩ := BX.out; obtain ⟨zB70, zB71, _, _⟩ := B7.out; clear g)
          | (go_at_call 35; (with_reducible refine (CW.out _ G.out).mono ?_); rintro e w10 ⟨rfl, g'⟩; have g := g'.alloc (.cells #[.int .i64 vN, .int .i64 vD] 27); have G := Lib.hid (G.out.trans g); have B7 := Lib.hid (B7.out.gr g); have B18 := Lib.hid (show Box2 (w10.alloc (.cells #[.int .i64 vN, .int .i64 vD] 27)) w10.heap.size vN vD from Box2.new rfl); clear g g')
          | (go_at_call 17; (with_reducible refine (CT.out _ G.out).mono ?_); rintro e w11 ⟨rfl, g'⟩; have g := g'.alloc (.cells #[.int .i64 tN, .int .i64 tD] 27); have G := Lib.hid (G.out.trans g); have B7 := Lib.hid (B7.out.gr g); have B18 := Lib.hid (B18.out.gr g); obtain ⟨zB70, zB71, _, _⟩ := B7.out; obtain ⟨zB180, zB181, _, _⟩ := B18.out; have B19 := Lib.hid (show Box2 (w11.alloc (.cells #[.int .i64 tN, .int .i64 tD] 27)) w11.heap.size tN tD from Box2.new rfl); clear g g')
          | (go_at_call 46; (with_reducible refine (LL4.out _).mono ?_); rintro e w13 ⟨rfl, g⟩; have G := Lib.hid (G.out.trans g); clear g)
          | (go_at_call 16; refine (Awake_any _).mono ?_; rintro e w14 ⟨rfl, hg11⟩))
        go_ret
        exact ⟨rfl, G.out.trans hg11⟩
    · have LL3 := Lib.hid (L3.out we)
      have k3 : ∀ N, okN (asE 2 X Y A B D) N = N := fun N => if_pos we
      rw [k3, k3, we] at CW
      clear WE k3 we L3
      generalize rN (maxA X Y A B D 2) D = vN at *
      generalize rD (maxA X Y A B D 2) D = vD at *
      rcases TE.out with te | te
      · subst te
        clear L4 TE
        go_enter Try.func9, Try.ntmps9
        go_wp2_with (first
          | (go_at_call 15; refine (HL.out _).mono ?_; rintro e w' ⟨rfl, rfl⟩)
          | (go_at_call 29; refine (CV.out _ G0.out).mono ?_; rintro e w1 ⟨rfl, g⟩; have G := Lib.hid (G0.out.trans g); have BX := Lib.hid (BX.out.gr g); clear g)
          | (go_at_call 21; refine (C21.out _ G.out).mono ?_; rintro e w2 ⟨rfl, g'⟩; have g := g'.alloc (.cells #[.int .i64 N1, .int .i64 D1] 27); have G := Lib.hid (G.out.trans g); have BX := Lib.hid (BX.out.gr g); have B7 := Lib.hid (show Box2 (w2.alloc (.cells #[.int .i64 N1, .int .i64 D1] 27)) w2.heap.size N1 D1 from Box2.new rfl); clear g g')
          | (go_at_call 40; refine (C40.out _ G.out).mono ?_; rintro e w3 ⟨rfl, g'⟩; have g := g'.alloc (.cells #[.int .i64 xA, .int .i64 xB, .int .i64 xD] 37); have G := Lib.hid (G.out.trans g); have BX := Lib.hid (BX.out.gr g); have B7 := Lib.hid (B7.out.gr g); have B9 := Lib.hid (show Box3 (w3.alloc (.cells #[.int .i64 xA, .int .i64 xB, .int .i64 xD] 37)) w3.heap.size xA xB xD from Box3.new rfl); clear g g')
          | (go_at_call 23; refine (C23.out _ G.out).mono ?_; rintro e w4 ⟨a5, c5, rfl, o1, o2, rd, g⟩; have G := Lib.hid (G.out.trans g); have R5 := Lib.hid rd; have O1 := Lib.hid o1; have BX := Lib.hid (BX.out.gr g); have B7 := Lib.hid (B7.out.gr g); have B9 := Lib.hid (B9.out.gr g); clear g rd o1 o2)
          | (go_at_call 19; refine (C19.out _ G.out).mono ?_; rintro e w5 ⟨rfl, g'⟩; have g := g'.alloc (.cells #[.int .i64 N2, .int .i64 D2] 27); have G := Lib.hid (G.out.trans g); have BX := Lib.hid (BX.out.gr g); have B7 := Lib.hid (B7.out.gr g); have B9 := Lib.hid (B9.out.gr g); have R5 := Lib.hid (R5.out.gr g); have B13 := Lib.hid (show Box2 (w5.alloc (.cells #[.int .i64 N2, .int .i64 D2] 27)) w5.heap.size N2 D2 from Box2.new rfl); obtain ⟨zB70, zB71, _, _⟩ := B7.out; obtain ⟨zB90, zB91, zB92, _, _, _⟩ := B9.out; clear g g')
          | (go_at_call 35; (with_reducible refine (CX.out _ G.out).mono ?_); rintro e w6 ⟨rfl, g'⟩; have g := g'.alloc (.cells #[.int .i64 N1, .int .i64 D1] 27); have G := Lib.hid (G.out.trans g); have BX := Lib.hid (BX.out.gr g); have B7 := Lib.hid (B7.out.gr g); have B13 := Lib.hid (B13.out.gr g); have R5 := Lib.hid (R5.out.gr g); obtain ⟨zB70, zB71, _, _⟩ := B7.out; obtain ⟨zB130, zB131, _, _⟩ := B13.out; clear g g')
          | (go_at_call 46; (with_reducible refine (L1.out _).mono ?_); rintro e w7 ⟨rfl, g⟩; have G := Lib.hid (G.out.trans g); have BX := Lib.hid (BX.out.gr g); have B7 := Lib.hid (B7.out.gr g); have B13 := Lib.hid (B13.out.gr g); have R5 := Lib.hid (R5.out.gr g); obtain ⟨zB70, zB71, _, _⟩ := B7.out; obtain ⟨zB130, zB131, _, _⟩ := B13.out; clear g)
          | (go_at_call 46; (with_reducible refine (L2.out _).mono ?_); rintro e w8 ⟨rfl, g⟩; have G := Lib.hid (G.out.trans g); have BX := Lib.hid (BX.out.gr g); have B7 := Lib.hid (B7.out.gr g); have R5 := Lib.hid (R5.out.gr g); obtain ⟨zBX0, zBX1, zBX2, _, _, _⟩ := BX.out; obtain ⟨zB70, zB71, _, _⟩ := B7.out; clear g)
          | (go_at_call 35; (with_reducible refine (CW.out _ G.out).mono ?_); rintro e w10 ⟨rfl, g'⟩; have g := g'.alloc (.cells #[.int .i64 vN, .int .i64 vD] 27); have G := Lib.hid (G.out.trans g); have B7 := Lib.hid (B7.out.gr g); have B18 := Lib.hid (show Box2 (w10.alloc (.cells #[.int .i64 vN, .int .i64 vD] 27)) w10.heap.size vN vD from Box2.new rfl); clear g g')
          | (go_at_call 17; (with_reducible refine (CT.out _ G.out).mono ?_); rintro e w11 ⟨rfl, g'⟩; have g := g'.alloc (.cells #[.int .i64 tN, .int .i64 tD] 27); have G := Lib.hid (G.out.trans g); have B7 := Lib.hid (B7.out.gr g); have B18 := Lib.hid (B18.out.gr g); obtain ⟨zB70, zB71, _, _⟩ := B7.out; obtain ⟨zB180, zB181, _, _⟩ := B18.out; have B19 := Lib.hid (show Box2 (w11.alloc (.cells #[.int .i64 tN, .int .i64 tD] 27)) w11.heap.size tN tD from Box2.new rfl); clear g g')
          | (go_at_call 46; (with_reducible refine (LL3.out _).mono ?_); rintro e w12 ⟨rfl, g⟩; have G := Lib.hid (G.out.trans g); have B7 := Lib.hid (B7.out.gr g); have B19 := Lib.hid (B19.out.gr g); obtain ⟨zB70, zB71, _, _⟩ := B7.out; obtain ⟨zB190, zB191, _, _⟩ := B19.out; clear g)
          | (go_at_call 16; refine (Awake_any _).mono ?_; rintro e w14 ⟨rfl, hg11⟩))
        go_ret
        exact ⟨rfl, G.out.trans hg11⟩
      · have LL4 := Lib.hid (L4.out te)
        clear TE L4
        subst te
        go_enter Try.func9, Try.ntmps9
        go_wp2_with (first
          | (go_at_call 15; refine (HL.out _).mono ?_; rintro e w' ⟨rfl, rfl⟩)
          | (go_at_call 29; refine (CV.out _ G0.out).mono ?_; rintro e w1 ⟨rfl, g⟩; have G := Lib.hid (G0.out.trans g); have BX := Lib.hid (BX.out.gr g); clear g)
          | (go_at_call 21; refine (C21.out _ G.out).mono ?_; rintro e w2 ⟨rfl, g'⟩; have g := g'.alloc (.cells #[.int .i64 N1, .int .i64 D1] 27); have G := Lib.hid (G.out.trans g); have BX := Lib.hid (BX.out.gr g); have B7 := Lib.hid (show Box2 (w2.alloc (.cells #[.int .i64 N1, .int .i64 D1] 27)) w2.heap.size N1 D1 from Box2.new rfl); clear g g')
          | (go_at_call 40; refine (C40.out _ G.out).mono ?_; rintro e w3 ⟨rfl, g'⟩; have g := g'.alloc (.cells #[.int .i64 xA, .int .i64 xB, .int .i64 xD] 37); have G := Lib.hid (G.out.trans g); have BX := Lib.hid (BX.out.gr g); have B7 := Lib.hid (B7.out.gr g); have B9 := Lib.hid (show Box3 (w3.alloc (.cells #[.int .i64 xA, .int .i64 xB, .int .i64 xD] 37)) w3.heap.size xA xB xD from Box3.new rfl); clear g g')
          | (go_at_call 23; refine (C23.out _ G.out).mono ?_; rintro e w4 ⟨a5, c5, rfl, o1, o2, rd, g⟩; have G := Lib.hid (G.out.trans g); have R5 := Lib.hid rd; have O1 := Lib.hid o1; have BX := Lib.hid (BX.out.gr g); have B7 := Lib.hid (B7.out.gr g); have B9 := Lib.hid (B9.out.gr g); clear g rd o1 o2)
          | (go_at_call 19; refine (C19.out _ G.out).mono ?_; rintro e w5 ⟨rfl, g'⟩; have g := g'.alloc (.cells #[.int .i64 N2, .int .i64 D2] 27); have G := Lib.hid (G.out.trans g); have BX := Lib.hid (BX.out.gr g); have B7 := Lib.hid (B7.out.gr g); have B9 := Lib.hid (B9.out.gr g); have R5 := Lib.hid (R5.out.gr g); have B13 := Lib.hid (show Box2 (w5.alloc (.cells #[.int .i64 N2, .int .i64 D2] 27)) w5.heap.size N2 D2 from Box2.new rfl); obtain ⟨zB70, zB71, _, _⟩ := B7.out; obtain ⟨zB90, zB91, zB92, _, _, _⟩ := B9.out; clear g g')
          | (go_at_call 35; (with_reducible refine (CX.out _ G.out).mono ?_); rintro e w6 ⟨rfl, g'⟩; have g := g'.alloc (.cells #[.int .i64 N1, .int .i64 D1] 27); have G := Lib.hid (G.out.trans g); have BX := Lib.hid (BX.out.gr g); have B7 := Lib.hid (B7.out.gr g); have B13 := Lib.hid (B13.out.gr g); have R5 := Lib.hid (R5.out.gr g); obtain ⟨zB70, zB71, _, _⟩ := B7.out; obtain ⟨zB130, zB131, _, _⟩ := B13.out; clear g g')
          | (go_at_call 46; (with_reducible refine (L1.out _).mono ?_); rintro e w7 ⟨rfl, g⟩; have G := Lib.hid (G.out.trans g); have BX := Lib.hid (BX.out.gr g); have B7 := Lib.hid (B7.out.gr g); have B13 := Lib.hid (B13.out.gr g); have R5 := Lib.hid (R5.out.gr g); obtain ⟨zB70, zB71, _, _⟩ := B7.out; obtain ⟨zB130, zB131, _, _⟩ := B13.out; clear g)
          | (go_at_call 46; (with_reducible refine (L2.out _).mono ?_); rintro e w8 ⟨rfl, g⟩; have G := Lib.hid (G.out.trans g); have BX := Lib.hid (BX.out.gr g); have B7 := Lib.hid (B7.out.gr g); have R5 := Lib.hid (R5.out.gr g); obtain ⟨zBX0, zBX1, zBX2, _, _, _⟩ := BX.out; obtain ⟨zB70, zB71, _, _⟩ := B7.out; clear g)
          | (go_at_call 35; (with_reducible refine (CW.out _ G.out).mono ?_); rintro e w10 ⟨rfl, g'⟩; have g := g'.alloc (.cells #[.int .i64 vN, .int .i64 vD] 27); have G := Lib.hid (G.out.trans g); have B7 := Lib.hid (B7.out.gr g); have B18 := Lib.hid (show Box2 (w10.alloc (.cells #[.int .i64 vN, .int .i64 vD] 27)) w10.heap.size vN vD from Box2.new rfl); clear g g')
          | (go_at_call 17; (with_reducible refine (CT.out _ G.out).mono ?_); rintro e w11 ⟨rfl, g'⟩; have g := g'.alloc (.cells #[.int .i64 tN, .int .i64 tD] 27); have G := Lib.hid (G.out.trans g); have B7 := Lib.hid (B7.out.gr g); have B18 := Lib.hid (B18.out.gr g); obtain ⟨zB70, zB71, _, _⟩ := B7.out; obtain ⟨zB180, zB181, _, _⟩ := B18.out; have B19 := Lib.hid (show Box2 (w11.alloc (.cells #[.int .i64 tN, .int .i64 tD] 27)) w11.heap.size tN tD from Box2.new rfl); clear g g')
          | (go_at_call 46; (with_reducible refine (LL3.out _).mono ?_); rintro e w12 ⟨rfl, g⟩; have G := Lib.hid (G.out.trans g); have B7 := Lib.hid (B7.out.gr g); have B19 := Lib.hid (B19.out.gr g); obtain ⟨zB70, zB71, _, _⟩ := B7.out; obtain ⟨zB190, zB191, _, _⟩ := B19.out; clear g)
          | (go_at_call 46; (with_reducible refine (LL4.out _).mono ?_); rintro e w13 ⟨rfl, g⟩; have G := Lib.hid (G.out.trans g); clear g)
          | (go_at_call 16; refine (Awake_any _).mono ?_; rintro e w14 ⟨rfl, hg11⟩))
        go_ret
        exact ⟨rfl, G.out.trans hg11⟩
  · obtain ⟨oe, s1, s2, s3, oL3'⟩ := W3.out h2
    have k1 : ((n : Int) == 2) = false := by simp; omega
    have oL3 : oL ≤ 1000 := by omega
    clear W2 W3 h2 oL3'
    have s1 := s1.symm
    have s2 := s2.symm
    subst oe s1 s2 s3
    rcases WE.out with we | ⟨we, _, _⟩
    · have g1 : (asE n X Y A B D != 0) = true := by simpa using we
      have g2 : (asE n X Y A B D == 0) = false := by simpa using we
      clear L3 WE we
      generalize okN (asE n X Y A B D) (rN (maxA X Y A B D n) D) = vN at *
      generalize okN (asE n X Y A B D) (rD (maxA X Y A B D n) D) = vD at *
      generalize asE n X Y A B D = E3 at *
      rcases TE.out with te | te
      · subst te
        clear L4 TE
        go_enter Try.func9, Try.ntmps9
        go_wp2_with (first
          | (go_at_call 15; refine (HL.out _).mono ?_; rintro e w' ⟨rfl, rfl⟩)
          | (go_at_call 29; refine (CV.out _ G0.out).mono ?_; rintro e w1 ⟨rfl, g⟩; have G := Lib.hid (G0.out.trans g); have BX := Lib.hid (BX.out.gr g); clear g)
          | (go_at_call 21; refine (C21.out _ G.out).mono ?_; rintro e w2 ⟨rfl, g'⟩; have g := g'.alloc (.cells #[.int .i64 N1, .int .i64 D1] 27); have G := Lib.hid (G.out.trans g); have BX := Lib.hid (BX.out.gr g); have B7 := Lib.hid (show Box2 (w2.alloc (.cells #[.int .i64 N1, .int .i64 D1] 27)) w2.heap.size N1 D1 from Box2.new rfl); clear g g')
          | (go_at_call 40; refine (C40.out _ G.out).mono ?_; rintro e w3 ⟨rfl, g'⟩; have g := g'.alloc (.cells #[.int .i64 xA, .int .i64 xB, .int .i64 xD] 37); have G := Lib.hid (G.out.trans g); have BX := Lib.hid (BX.out.gr g); have B7 := Lib.hid (B7.out.gr g); have B9 := Lib.hid (show Box3 (w3.alloc (.cells #[.int .i64 xA, .int .i64 xB, .int .i64 xD] 37)) w3.heap.size xA xB xD from Box3.new rfl); clear g g')
          | (go_at_call 23; refine (C23.out _ G.out).mono ?_; rintro e w4 ⟨a5, c5, rfl, o1, o2, rd, g⟩; have G := Lib.hid (G.out.trans g); have R5 := Lib.hid rd; have O1 := Lib.hid o1; have BX := Lib.hid (BX.out.gr g); have B7 := Lib.hid (B7.out.gr g); have B9 := Lib.hid (B9.out.gr g); clear g rd o1 o2)
          | (go_at_call 19; refine (C19.out _ G.out).mono ?_; rintro e w5 ⟨rfl, g'⟩; have g := g'.alloc (.cells #[.int .i64 N2, .int .i64 D2] 27); have G := Lib.hid (G.out.trans g); have BX := Lib.hid (BX.out.gr g); have B7 := Lib.hid (B7.out.gr g); have B9 := Lib.hid (B9.out.gr g); have R5 := Lib.hid (R5.out.gr g); have B13 := Lib.hid (show Box2 (w5.alloc (.cells #[.int .i64 N2, .int .i64 D2] 27)) w5.heap.size N2 D2 from Box2.new rfl); obtain ⟨zB70, zB71, _, _⟩ := B7.out; obtain ⟨zB90, zB91, zB92, _, _, _⟩ := B9.out; clear g g')
          | (go_at_call 35; (with_reducible refine (CX.out _ G.out).mono ?_); rintro e w6 ⟨rfl, g'⟩; have g := g'.alloc (.cells #[.int .i64 N1, .int .i64 D1] 27); have G := Lib.hid (G.out.trans g); have BX := Lib.hid (BX.out.gr g); have B7 := Lib.hid (B7.out.gr g); have B13 := Lib.hid (B13.out.gr g); have R5 := Lib.hid (R5.out.gr g); obtain ⟨zB70, zB71, _, _⟩ := B7.out; obtain ⟨zB130, zB131, _, _⟩ := B13.out; clear g g')
          | (go_at_call 46; (with_reducible refine (L1.out _).mono ?_); rintro e w7 ⟨rfl, g⟩; have G := Lib.hid (G.out.trans g); have BX := Lib.hid (BX.out.gr g); have B7 := Lib.hid (B7.out.gr g); have B13 := Lib.hid (B13.out.gr g); have R5 := Lib.hid (R5.out.gr g); obtain ⟨zB70, zB71, _, _⟩ := B7.out; obtain ⟨zB130, zB131, _, _⟩ := B13.out; clear g)
          | (go_at_call 46; (with_reducible refine (L2.out _).mono ?_); rintro e w8 ⟨rfl, g⟩; have G := Lib.hid (G.out.trans g); have BX := Lib.hid (BX.out.gr g); have B7 := Lib.hid (B7.out.gr g); have R5 := Lib.hid (R5.out.gr g); obtain ⟨zBX0, zBX1, zBX2, _, _, _⟩ := BX.out; obtain ⟨zB70, zB71, _, _⟩ := B7.out; clear g)
          | (go_at_call 17; (with_reducible refine (CF.out _ G.out _ _ O1.out oL3 R5.out).mono ?_); rintro e w9 ⟨rfl, g'⟩; have g := g'.alloc (.cells #[.int .i64 N1, .int .i64 D1] 27); have G := Lib.hid (G.out.trans g); have BX := Lib.hid (BX.out.gr g); have B7 := Lib.hid (B7.out.gr g); obtain ⟨zBX0, zBX1, zBX2, _, _, _⟩ := BX.out; obtain ⟨zB70, zB71, _, _⟩ := B7.out; clear g g')
          | (go_at_call 35; (with_reducible refine (CW.out _ G.out).mono ?_); rintro e w10 ⟨rfl, g'⟩; have g := g'.alloc (.cells #[.int .i64 vN, .int .i64 vD] 27); have G := Lib.hid (G.out.trans g); have B7 := Lib.hid (B7.out.gr g); have B18 := Lib.hid (show Box2 (w10.alloc (.cells #[.int .i64 vN, .int .i64 vD] 27)) w10.heap.size vN vD from Box2.new rfl); clear g g')
          | (go_at_call 17; (with_reducible refine (CT.out _ G.out).mono ?_); rintro e w11 ⟨rfl, g'⟩; have g := g'.alloc (.cells #[.int .i64 tN, .int .i64 tD] 27); have G := Lib.hid (G.out.trans g); have B7 := Lib.hid (B7.out.gr g); have B18 := Lib.hid (B18.out.gr g); obtain ⟨zB70, zB71, _, _⟩ := B7.out; obtain ⟨zB180, zB181, _, _⟩ := B18.out; have B19 := Lib.hid (show Box2 (w11.alloc (.cells #[.int .i64 tN, .int .i64 tD] 27)) w11.heap.size tN tD from Box2.new rfl); clear g g')
          | (go_at_call 16; refine (Awake_any _).mono ?_; rintro e w14 ⟨rfl, hg11⟩))
        go_ret
        exact ⟨rfl, G.out.trans hg11⟩
      · have LL4 := Lib.hid (L4.out te)
        clear TE L4
        subst te
        go_enter Try.func9, Try.ntmps9
        go_wp2_with (first
          | (go_at_call 15; refine (HL.out _).mono ?_; rintro e w' ⟨rfl, rfl⟩)
          | (go_at_call 29; refine (CV.out _ G0.out).mono ?_; rintro e w1 ⟨rfl, g⟩; have G := Lib.hid (G0.out.trans g); have BX := Lib.hid (BX.out.gr g); clear g)
          | (go_at_call 21; refine (C21.out _ G.out).mono ?_; rintro e w2 ⟨rfl, g'⟩; have g := g'.alloc (.cells #[.int .i64 N1, .int .i64 D1] 27); have G := Lib.hid (G.out.trans g); have BX := Lib.hid (BX.out.gr g); have B7 := Lib.hid (show Box2 (w2.alloc (.cells #[.int .i64 N1, .int .i64 D1] 27)) w2.heap.size N1 D1 from Box2.new rfl); clear g g')
          | (go_at_call 40; refine (C40.out _ G.out).mono ?_; rintro e w3 ⟨rfl, g'⟩; have g := g'.alloc (.cells #[.int .i64 xA, .int .i64 xB, .int .i64 xD] 37); have G := Lib.hid (G.out.trans g); have BX := Lib.hid (BX.out.gr g); have B7 := Lib.hid (B7.out.gr g); have B9 := Lib.hid (show Box3 (w3.alloc (.cells #[.int .i64 xA, .int .i64 xB, .int .i64 xD] 37)) w3.heap.size xA xB xD from Box3.new rfl); clear g g')
          | (go_at_call 23; refine (C23.out _ G.out).mono ?_; rintro e w4 ⟨a5, c5, rfl, o1, o2, rd, g⟩; have G := Lib.hid (G.out.trans g); have R5 := Lib.hid rd; have O1 := Lib.hid o1; have BX := Lib.hid (BX.out.gr g); have B7 := Lib.hid (B7.out.gr g); have B9 := Lib.hid (B9.out.gr g); clear g rd o1 o2)
          | (go_at_call 19; refine (C19.out _ G.out).mono ?_; rintro e w5 ⟨rfl, g'⟩; have g := g'.alloc (.cells #[.int .i64 N2, .int .i64 D2] 27); have G := Lib.hid (G.out.trans g); have BX := Lib.hid (BX.out.gr g); have B7 := Lib.hid (B7.out.gr g); have B9 := Lib.hid (B9.out.gr g); have R5 := Lib.hid (R5.out.gr g); have B13 := Lib.hid (show Box2 (w5.alloc (.cells #[.int .i64 N2, .int .i64 D2] 27)) w5.heap.size N2 D2 from Box2.new rfl); obtain ⟨zB70, zB71, _, _⟩ := B7.out; obtain ⟨zB90, zB91, zB92, _, _, _⟩ := B9.out; clear g g')
          | (go_at_call 35; (with_reducible refine (CX.out _ G.out).mono ?_); rintro e w6 ⟨rfl, g'⟩; have g := g'.alloc (.cells #[.int .i64 N1, .int .i64 D1] 27); have G := Lib.hid (G.out.trans g); have BX := Lib.hid (BX.out.gr g); have B7 := Lib.hid (B7.out.gr g); have B13 := Lib.hid (B13.out.gr g); have R5 := Lib.hid (R5.out.gr g); obtain ⟨zB70, zB71, _, _⟩ := B7.out; obtain ⟨zB130, zB131, _, _⟩ := B13.out; clear g g')
          | (go_at_call 46; (with_reducible refine (L1.out _).mono ?_); rintro e w7 ⟨rfl, g⟩; have G := Lib.hid (G.out.trans g); have BX := Lib.hid (BX.out.gr g); have B7 := Lib.hid (B7.out.gr g); have B13 := Lib.hid (B13.out.gr g); have R5 := Lib.hid (R5.out.gr g); obtain ⟨zB70, zB71, _, _⟩ := B7.out; obtain ⟨zB130, zB131, _, _⟩ := B13.out; clear g)
          | (go_at_call 46; (with_reducible refine (L2.out _).mono ?_); rintro e w8 ⟨rfl, g⟩; have G := Lib.hid (G.out.trans g); have BX := Lib.hid (BX.out.gr g); have B7 := Lib.hid (B7.out.gr g); have R5 := Lib.hid (R5.out.gr g); obtain ⟨zBX0, zBX1, zBX2, _, _, _⟩ := BX.out; obtain ⟨zB70, zB71, _, _⟩ := B7.out; clear g)
          | (go_at_call 17; (with_reducible refine (CF.out _ G.out _ _ O1.out oL3 R5.out).mono ?_); rintro e w9 ⟨rfl, g'⟩; have g := g'.alloc (.cells #[.int .i64 N1, .int .i64 D1] 27); have G := Lib.hid (G.out.trans g); have BX := Lib.hid (BX.out.gr g); have B7 := Lib.hid (B7.out.gr g); obtain ⟨zBX0, zBX1, zBX2, _, _, _⟩ := BX.out; obtain ⟨zB70, zB71, _, _⟩ := B7.out; clear g g')
          | (go_at_call 35; (with_reducible refine (CW.out _ G.out).mono ?_); rintro e w10 ⟨rfl, g'⟩; have g := g'.alloc (.cells #[.int .i64 vN, .int .i64 vD] 27); have G := Lib.hid (G.out.trans g); have B7 := Lib.hid (B7.out.gr g); have B18 := Lib.hid (show Box2 (w10.alloc (.cells #[.int .i64 vN, .int .i64 vD] 27)) w10.heap.size vN vD from Box2.new rfl); clear g g')
          | (go_at_call 17; (with_reducible refine (CT.out _ G.out).mono ?_); rintro e w11 ⟨rfl, g'⟩; have g := g'.alloc (.cells #[.int .i64 tN, .int .i64 tD] 27); have G := Lib.hid (G.out.trans g); have B7 := Lib.hid (B7.out.gr g); have B18 := Lib.hid (B18.out.gr g); obtain ⟨zB70, zB71, _, _⟩ := B7.out; obtain ⟨zB180, zB181, _, _⟩ := B18.out; have B19 := Lib.hid (show Box2 (w11.alloc (.cells #[.int .i64 tN, .int .i64 tD] 27)) w11.heap.size tN tD from Box2.new rfl); clear g g')
          | (go_at_call 46; (with_reducible refine (LL4.out _).mono ?_); rintro e w13 ⟨rfl, g⟩; have G := Lib.hid (G.out.trans g); clear g)
          | (go_at_call 16; refine (Awake_any _).mono ?_; rintro e w14 ⟨rfl, hg11⟩))
        go_ret
        exact ⟨rfl, G.out.trans hg11⟩
    · have LL3 := Lib.hid (L3.out we)
      have k3 : ∀ N, okN (asE n X Y A B D) N = N := fun N => if_pos we
      rw [k3, k3, we] at CW
      clear WE k3 we L3
      generalize rN (maxA X Y A B D n) D = vN at *
      generalize rD (maxA X Y A B D n) D = vD at *
      rcases TE.out with te | te
      · subst te
        clear L4 TE
        go_enter Try.func9, Try.ntmps9
        go_wp2_with (first
          | (go_at_call 15; refine (HL.out _).mono ?_; rintro e w' ⟨rfl, rfl⟩)
          | (go_at_call 29; refine (CV.out _ G0.out).mono ?_; rintro e w1 ⟨rfl, g⟩; have G := Lib.hid (G0.out.trans g); have BX := Lib.hid (BX.out.gr g); clear g)
          | (go_at_call 21; refine (C21.out _ G.out).mono ?_; rintro e w2 ⟨rfl, g'⟩; have g := g'.alloc (.cells #[.int .i64 N1, .int .i64 D1] 27); have G := Lib.hid (G.out.trans g); have BX := Lib.hid (BX.out.gr g); have B7 := Lib.hid (show Box2 (w2.alloc (.cells #[.int .i64 N1, .int .i64 D1] 27)) w2.heap.size N1 D1 from Box2.new rfl); clear g g')
          | (go_at_call 40; refine (C40.out _ G.out).mono ?_; rintro e w3 ⟨rfl, g'⟩; have g := g'.alloc (.cells #[.int .i64 xA, .int .i64 xB, .int .i64 xD] 37); have G := Lib.hid (G.out.trans g); have BX := Lib.hid (BX.out.gr g); have B7 := Lib.hid (B7.out.gr g); have B9 := Lib.hid (show Box3 (w3.alloc (.cells #[.int .i64 xA, .int .i64 xB, .int .i64 xD] 37)) w3.heap.size xA xB xD from Box3.new rfl); clear g g')
          | (go_at_call 23; refine (C23.out _ G.out).mono ?_; rintro e w4 ⟨a5, c5, rfl, o1, o2, rd, g⟩; have G := Lib.hid (G.out.trans g); have R5 := Lib.hid rd; have O1 := Lib.hid o1; have BX := Lib.hid (BX.out.gr g); have B7 := Lib.hid (B7.out.gr g); have B9 := Lib.hid (B9.out.gr g); clear g rd o1 o2)
          | (go_at_call 19; refine (C19.out _ G.out).mono ?_; rintro e w5 ⟨rfl, g'⟩; have g := g'.alloc (.cells #[.int .i64 N2, .int .i64 D2] 27); have G := Lib.hid (G.out.trans g); have BX := Lib.hid (BX.out.gr g); have B7 := Lib.hid (B7.out.gr g); have B9 := Lib.hid (B9.out.gr g); have R5 := Lib.hid (R5.out.gr g); have B13 := Lib.hid (show Box2 (w5.alloc (.cells #[.int .i64 N2, .int .i64 D2] 27)) w5.heap.size N2 D2 from Box2.new rfl); obtain ⟨zB70, zB71, _, _⟩ := B7.out; obtain ⟨zB90, zB91, zB92, _, _, _⟩ := B9.out; clear g g')
          | (go_at_call 35; (with_reducible refine (CX.out _ G.out).mono ?_); rintro e w6 ⟨rfl, g'⟩; have g := g'.alloc (.cells #[.int .i64 N1, .int .i64 D1] 27); have G := Lib.hid (G.out.trans g); have BX := Lib.hid (BX.out.gr g); have B7 := Lib.hid (B7.out.gr g); have B13 := Lib.hid (B13.out.gr g); have R5 := Lib.hid (R5.out.gr g); obtain ⟨zB70, zB71, _, _⟩ := B7.out; obtain ⟨zB130, zB131, _, _⟩ := B13.out; clear g g')
          | (go_at_call 46; (with_reducible refine (L1.out _).mono ?_); rintro e w7 ⟨rfl, g⟩; have G := Lib.hid (G.out.trans g); have BX := Lib.hid (BX.out.gr g); have B7 := Lib.hid (B7.out.gr g); have B13 := Lib.hid (B13.out.gr g); have R5 := Lib.hid (R5.out.gr g); obtain ⟨zB70, zB71, _, _⟩ := B7.out; obtain ⟨zB130, zB131, _, _⟩ := B13.out; clear g)
          | (go_at_call 46; (with_reducible refine (L2.out _).mono ?_); rintro e w8 ⟨rfl, g⟩; have G := Lib.hid (G.out.trans g); have BX := Lib.hid (BX.out.gr g); have B7 := Lib.hid (B7.out.gr g); have R5 := Lib.hid (R5.out.gr g); obtain ⟨zBX0, zBX1, zBX2, _, _, _⟩ := BX.out; obtain ⟨zB70, zB71, _, _⟩ := B7.out; clear g)
          | (go_at_call 17; (with_reducible refine (CF.out _ G.out _ _ O1.out oL3 R5.out).mono ?_); rintro e w9 ⟨rfl, g'⟩; have g := g'.alloc (.cells #[.int .i64 N1, .int .i64 D1] 27); have G := Lib.hid (G.out.trans g); have BX := Lib.hid (BX.out.gr g); have B7 := Lib.hid (B7.out.gr g); obtain ⟨zBX0, zBX1, zBX2, _, _, _⟩ := BX.out; obtain ⟨zB70, zB71, _, _⟩ := B7.out; clear g g')
          | (go_at_call 35; (with_reducible refine (CW.out _ G.out).mono ?_); rintro e w10 ⟨rfl, g'⟩; have g := g'.alloc (.cells #[.int .i64 vN, .int .i64 vD] 27); have G := Lib.hid (G.out.trans g); have B7 := Lib.hid (B7.out.gr g); have B18 := Lib.hid (show Box2 (w10.alloc (.cells #[.int .i64 vN, .int .i64 vD] 27)) w10.heap.size vN vD from Box2.new rfl); clear g g')
          | (go_at_call 17; (with_reducible refine (CT.out _ G.out).mono ?_); rintro e w11 ⟨rfl, g'⟩; have g := g'.alloc (.cells #[.int .i64 tN, .int .i64 tD] 27); have G := Lib.hid (G.out.trans g); have B7 := Lib.hid (B7.out.gr g); have B18 := Lib.hid (B18.out.gr g); obtain ⟨zB70, zB71, _, _⟩ := B7.out; obtain ⟨zB180, zB181, _, _⟩ := B18.out; have B19 := Lib.hid (show Box2 (w11.alloc (.cells #[.int .i64 tN, .int .i64 tD] 27)) w11.heap.size tN tD from Box2.new rfl); clear g g')
          | (go_at_call 46; (with_reducible refine (LL3.out _).mono ?_); rintro e w12 ⟨rfl, g⟩; have G := Lib.hid (G.out.trans g); have B7 := Lib.hid (B7.out.gr g); have B19 := Lib.hid (B19.out.gr g); obtain ⟨zB70, zB71, _, _⟩ := B7.out; obtain ⟨zB190, zB191, _, _⟩ := B19.out; clear g)
          | (go_at_call 16; refine (Awake_any _).mono ?_; rintro e w14 ⟨rfl, hg11⟩))
        go_ret
        exact ⟨rfl, G.out.trans hg11⟩
      · have LL4 := Lib.hid (L4.out te)
        clear TE L4
        subst te
        go_enter Try.func9, Try.ntmps9
        go_wp2_with (first
          | (go_at_call 15; refine (HL.out _).mono ?_; rintro e w' ⟨rfl, rfl⟩)
          | (go_at_call 29; refine (CV.out _ G0.out).mono ?_; rintro e w1 ⟨rfl, g⟩; have G := Lib.hid (G0.out.trans g); have BX := Lib.hid (BX.out.gr g); clear g)
          | (go_at_call 21; refine (C21.out _ G.out).mono ?_; rintro e w2 ⟨rfl, g'⟩; have g := g'.alloc (.cells #[.int .i64 N1, .int .i64 D1] 27); have G := Lib.hid (G.out.trans g); have BX := Lib.hid (BX.out.gr g); have B7 := Lib.hid (show Box2 (w2.alloc (.cells #[.int .i64 N1, .int .i64 D1] 27)) w2.heap.size N1 D1 from Box2.new rfl); clear g g')
          | (go_at_call 40; refine (C40.out _ G.out).mono ?_; rintro e w3 ⟨rfl, g'⟩; have g := g'.alloc (.cells #[.int .i64 xA, .int .i64 xB, .int .i64 xD] 37); have G := Lib.hid (G.out.trans g); have BX := Lib.hid (BX.out.gr g); have B7 := Lib.hid (B7.out.gr g); have B9 := Lib.hid (show Box3 (w3.alloc (.cells #[.int .i64 xA, .int .i64 xB, .int .i64 xD] 37)) w3.heap.size xA xB xD from Box3.new rfl); clear g g')
          | (go_at_call 23; refine (C23.out _ G.out).mono ?_; rintro e w4 ⟨a5, c5, rfl, o1, o2, rd, g⟩; have G := Lib.hid (G.out.trans g); have R5 := Lib.hid rd; have O1 := Lib.hid o1; have BX := Lib.hid (BX.out.gr g); have B7 := Lib.hid (B7.out.gr g); have B9 := Lib.hid (B9.out.gr g); clear g rd o1 o2)
          | (go_at_call 19; refine (C19.out _ G.out).mono ?_; rintro e w5 ⟨rfl, g'⟩; have g := g'.alloc (.cells #[.int .i64 N2, .int .i64 D2] 27); have G := Lib.hid (G.out.trans g); have BX := Lib.hid (BX.out.gr g); have B7 := Lib.hid (B7.out.gr g); have B9 := Lib.hid (B9.out.gr g); have R5 := Lib.hid (R5.out.gr g); have B13 := Lib.hid (show Box2 (w5.alloc (.cells #[.int .i64 N2, .int .i64 D2] 27)) w5.heap.size N2 D2 from Box2.new rfl); obtain ⟨zB70, zB71, _, _⟩ := B7.out; obtain ⟨zB90, zB91, zB92, _, _, _⟩ := B9.out; clear g g')
          | (go_at_call 35; (with_reducible refine (CX.out _ G.out).mono ?_); rintro e w6 ⟨rfl, g'⟩; have g := g'.alloc (.cells #[.int .i64 N1, .int .i64 D1] 27); have G := Lib.hid (G.out.trans g); have BX := Lib.hid (BX.out.gr g); have B7 := Lib.hid (B7.out.gr g); have B13 := Lib.hid (B13.out.gr g); have R5 := Lib.hid (R5.out.gr g); obtain ⟨zB70, zB71, _, _⟩ := B7.out; obtain ⟨zB130, zB131, _, _⟩ := B13.out; clear g g')
          | (go_at_call 46; (with_reducible refine (L1.out _).mono ?_); rintro e w7 ⟨rfl, g⟩; have G := Lib.hid (G.out.trans g); have BX := Lib.hid (BX.out.gr g); have B7 := Lib.hid (B7.out.gr g); have B13 := Lib.hid (B13.out.gr g); have R5 := Lib.hid (R5.out.gr g); obtain ⟨zB70, zB71, _, _⟩ := B7.out; obtain ⟨zB130, zB131, _, _⟩ := B13.out; clear g)
          | (go_at_call 46; (with_reducible refine (L2.out _).mono ?_); rintro e w8 ⟨rfl, g⟩; have G := Lib.hid (G.out.trans g); have BX := Lib.hid (BX.out.gr g); have B7 := Lib.hid (B7.out.gr g); have R5 := Lib.hid (R5.out.gr g); obtain ⟨zBX0, zBX1, zBX2, _, _, _⟩ := BX.out; obtain ⟨zB70, zB71, _, _⟩ := B7.out; clear g)
          | (go_at_call 17; (with_reducible refine (CF.out _ G.out _ _ O1.out oL3 R5.out).mono ?_); rintro e w9 ⟨rfl, g'⟩; have g := g'.alloc (.cells #[.int .i64 N1, .int .i64 D1] 27); have G := Lib.hid (G.out.trans g); have BX := Lib.hid (BX.out.gr g); have B7 := Lib.hid (B7.out.gr g); obtain ⟨zBX0, zBX1, zBX2, _, _, _⟩ := BX.out; obtain ⟨zB70, zB71, _, _⟩ := B7.out; clear g g')
          | (go_at_call 35; (with_reducible refine (CW.out _ G.out).mono ?_); rintro e w10 ⟨rfl, g'⟩; have g := g'.alloc (.cells #[.int .i64 vN, .int .i64 vD] 27); have G := Lib.hid (G.out.trans g); have B7 := Lib.hid (B7.out.gr g); have B18 := Lib.hid (show Box2 (w10.alloc (.cells #[.int .i64 vN, .int .i64 vD] 27)) w10.heap.size vN vD from Box2.new rfl); clear g g')
          | (go_at_call 17; (with_reducible refine (CT.out _ G.out).mono ?_); rintro e w11 ⟨rfl, g'⟩; have g := g'.alloc (.cells #[.int .i64 tN, .int .i64 tD] 27); have G := Lib.hid (G.out.trans g); have B7 := Lib.hid (B7.out.gr g); have B18 := Lib.hid (B18.out.gr g); obtain ⟨zB70, zB71, _, _⟩ := B7.out; obtain ⟨zB180, zB181, _, _⟩ := B18.out; have B19 := Lib.hid (show Box2 (w11.alloc (.cells #[.int .i64 tN, .int .i64 tD] 27)) w11.heap.size tN tD from Box2.new rfl); clear g g')
          | (go_at_call 46; (with_reducible refine (LL3.out _).mono ?_); rintro e w12 ⟨rfl, g⟩; have G := Lib.hid (G.out.trans g); have B7 := Lib.hid (B7.out.gr g); have B19 := Lib.hid (B19.out.gr g); obtain ⟨zB70, zB71, _, _⟩ := B7.out; obtain ⟨zB190, zB191, _, _⟩ := B19.out; clear g)
          | (go_at_call 46; (with_reducible refine (LL4.out _).mono ?_); rintro e w13 ⟨rfl, g⟩; have G := Lib.hid (G.out.trans g); clear g)
          | (go_at_call 16; refine (Awake_any _).mono ?_; rintro e w14 ⟨rfl, hg11⟩))
        go_ret
        exact ⟨rfl, G.out.trans hg11⟩

set_option maxRecDepth 100000 in
theorem lifted (os : Os) (started : os.Started) (H : Type) (enc : TypeId × Value → H) :
    ReturnsInHanded {} Try.checked os 9 .any (Rows.trackWidthsSpec.pre6 enc Try.prog Try.f9 Rows.trackWidthsRow.domain false) (Rows.trackWidthsSpec.post enc Try.prog Try.f9 false true false false) := by
  refine returnsInHanded_of_change (C := Try.checked) own started (by kernel_rfl) Try.func9
    (ChangeSpec.witness6 (enc := enc) (C := Try.checked) false ⟨#[], #[.slice none 0 0, .agg #[.int .i64 0, .int .i64 0, .int .i64 0], .slice none 0 0], []⟩ 8 (by kernel_rfl) (by kernel_rfl) (by kernel_rfl) (by kernel_rfl)) ?_
  intro W base args ds gs before hval0 hW hcnd _
  have hval : ∀ (j : Nat) t v, Try.f9.params[j]? = some t → args[j]? = some v → Value.okWide Try.prog W .any base t v := hval0
  have hW' := hW
  obtain ⟨p, q, hA0, hV, rfl, hfz, hnd⟩ := hW
  have hA : DataW.TrodAll enc Try.prog W 0 (fun _ => true) true Try.f9.params.toList args.toList ds p := hA0
  rw [Try.params9] at hA hval
  obtain ⟨v0, vs0, d0, ds0, p0, q0, hargs, rfl, rfl, h0, r0⟩ := trodAll_cons hA
  obtain ⟨v1, vs1, d1, ds1, p1, q1, rfl, rfl, rfl, h1, r1⟩ := trodAll_cons r0
  obtain ⟨v2, vs2, d2, ds2, p2, q2, rfl, rfl, rfl, h2, r2⟩ := trodAll_cons r1
  obtain ⟨rfl, rfl, rfl⟩ := trodAll_nil r2
  obtain rfl : args = #[v0, v1, v2] := by cases args; simp_all
  obtain ⟨rfl, rfl⟩ := trodVars_none hV
  obtain ⟨a0, len0, cap0, rfl⟩ := okWide_slice Try.underlying22 (hval 0 22 v0 rfl rfl)
  have k0 := h0
  have lt0 : ∀ x ∈ p0, x.block < W.heap.size := by obtain ⟨m, hm⟩ := k0; exact DataW.trod_lt m _ _ _ hm
  obtain ⟨x0, y0, wn0, _, wr0⟩ : ∃ f g : Nat → Int, len0 ≤ 9223372036854775807 ∧ (∀ i, i < len0 → (Lit.int .i64 (f i)).wf = true ∧ (Lit.int .i64 (g i)).wf = true) ∧ RdM W a0 len0 f g := by
    obtain ⟨fuel, hf⟩ := h0
    exact RdM.of_trod Try.underlying22 Try.underlying56 (by kernel_rfl) ⟨rfl, rfl⟩ ⟨rfl, rfl⟩ (by kernel_rfl) Try.underlying3 hf
  have k1 := h1
  have lt1 : ∀ x ∈ p1, x.block < W.heap.size := by obtain ⟨m, hm⟩ := k1; exact DataW.trod_lt m _ _ _ hm
  obtain ⟨x1, y1, z1, rfl, _, _, _⟩ := open_triple Try.underlying37 (by kernel_rfl) (by kernel_rfl) rfl rfl rfl Try.underlying3 (hval 1 37 v1 rfl rfl) h1
  obtain ⟨a2, len2, cap2, rfl⟩ := okWide_slice Try.underlying23 (hval 2 23 v2 rfl rfl)
  have k2 := h2
  have lt2 : ∀ x ∈ p2, x.block < W.heap.size := by obtain ⟨m, hm⟩ := k2; exact DataW.trod_lt m _ _ _ hm
  obtain ⟨z2, w2⟩ : ∃ zs, IsRow W a2 len2 cap2 zs := by
    obtain ⟨fuel, hf⟩ := h2
    rcases open_ints Try.underlying23 Try.underlying3 (by kernel_rfl) hf with ⟨hcs, _⟩ | ⟨x, l, c, zs, hcs, _, hl, hm, hz, _, hcell, hwz⟩
    · simp [Value.cells] at hcs
      obtain ⟨rfl, rfl, rfl⟩ := hcs
      exact ⟨[], .inl ⟨rfl, rfl, rfl, rfl⟩⟩
    · simp [Value.cells] at hcs
      obtain ⟨rfl, rfl, rfl⟩ := hcs
      exact ⟨zs, .inr ⟨_, rfl, hl, hm, by simpa using hz, hcell, hwz⟩⟩
  clear hA0 hval0
  refine (walk a0 len0 cap0 x0 y0 x1 y1 z1 a2 len2 cap2 _ W wn0 wr0 w2.rd.1 (rowLe w2) w2.rd.2).mono fun e W' ⟨he, bel⟩ => ?_
  subst he
  exact ⟨_, rfl, _, _, _, [], _, [], hW', trodAll_mk1 (shut_bool Try.underlying4 _), (trodAll_cons_mk (Below.trod laidOut (by kernel_rfl) (of_decide_eq_true (by kernel_rfl)) k0 bel lt0) (trodAll_cons_mk (Below.trod laidOut (by kernel_rfl) (of_decide_eq_true (by kernel_rfl)) k1 bel lt1) (trodAll_cons_mk (Below.trod laidOut (by kernel_rfl) (of_decide_eq_true (by kernel_rfl)) k2 bel lt2) trodAll_mk0))), rfl, bel.frame _, fun h => by cases h⟩

theorem over : Rows.trackWidthsRow.holds Try.pinned (OpenSpec.ofChange Rows.trackWidthsSpec) :=
  OpenClaim.holds_of_wide 9 Try.f9 rfl rfl rfl rfl rfl rfl rfl ⟨rfl, rfl, rfl, rfl, rfl⟩ rfl rfl rfl rfl rfl (by kernel_rfl) Try.func9 (by kernel_rfl)
    (of_decide_eq_true (by kernel_rfl)) (by unfold Func.isWrapper; first | (rw [if_pos (by decide +kernel)]; kernel_rfl) | (rw [if_neg (by decide +kernel)]; exact ⟨rfl, rfl⟩))
    (fun os started H enc _ => lifted os started H enc)

/-- The statement. -/
theorem proved : Rows.TrackWidthsSaid := over
end Go.Proofs.Ytbhndfnfohoidaa.trackWidths
