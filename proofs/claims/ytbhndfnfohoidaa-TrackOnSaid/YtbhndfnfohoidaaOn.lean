/- Proved: TrackOn returns true at all points and every line, and its arguments read afterwards as before. Conditions: none. -/
import Derived.Test.YtbhndfnfohoidaaP8
import Derived.Test.YtbhndfnfohoidaaW12
import Derived.Test.YtbhndfnfohoidaaW18
import Derived.Test.YtbhndfnfohoidaaW21
import Derived.Test.YtbhndfnfohoidaaW24
import Derived.Test.YtbhndfnfohoidaaW29
import Derived.Deep.RegionHeld3
import Derived.ProofKit
import Derived.OpenShut
import Derived.ShutString
import Derived.ChangeOld
import Derived.Below
namespace Go.Proofs.Ytbhndfnfohoidaa.trackOn
open Go.ChangeShapes Go.WideShapes Go.ChangeAt Go.RowKit Go.Firn
open Go.ChangeMaps (open_string shut_string)

theorem own : ownKnob Try.prog.godebug = none := by kernel_rfl
theorem laidOut : laidOutB Try.prog = true := by kernel_rfl

set_option maxHeartbeats 8000000 in
set_option maxRecDepth 100000 in
theorem walk (a : Option Addr) (n c : Nat) (X Y : Nat → Int) (A B D : Int) (w : World) (hn : n ≤ 9223372036854775807) (hr : RdM w a n X Y) :
    Calls Try.prog 8 #[.slice a n c, .agg #[.int .i64 A, .int .i64 B, .int .i64 D]] w (RetB true w) := by
  have HL := Lib.hid (fun w1 => Long_any a n c w1 hn)
  obtain ⟨W0, hW0⟩ : ∃ W0, (w.alloc (.cells #[.int .i64 A, .int .i64 B, .int .i64 D] 37)) = W0 := ⟨_, rfl⟩
  have G0 := Lib.hid (show Gr w W0 by rw [← hW0]; exact (Gr.refl w).alloc _)
  have B3 := Lib.hid (show Box3 W0 w.heap.size A B D by rw [← hW0]; exact Box3.new rfl)
  obtain ⟨l0, l1, l2, f0, f1, f2⟩ := B3.out
  by_cases h1 : 60 < n
  · have e1 : decide (60 < n) = true := by simpa using h1
    rw [e1] at HL
    clear e1
    go_enter Try.func8, Try.ntmps8
    go_wp2_with (first
      | (go_at_call 15; refine (HL.out _).mono ?_; rintro e w' ⟨rfl, rfl⟩)
      | (go_at_call 16; refine (Awake_any _).mono ?_; rintro e w6 ⟨rfl, hg11⟩))
    go_ret
    exact ⟨rfl, G0.out.trans hg11⟩
  have e1 : decide (60 < n) = false := by simpa using h1
  rw [e1] at HL
  have n60 : n ≤ 1000 := by omega
  have C1 := Lib.hid (fun w1 (g : Gr w w1) => Rests_any a n c X Y A B D w1 n60 (hr.gr g))
  have C2 := Lib.hid (fun w1 (g : Gr w w1) => Cost_any a n c X Y A B D w1 n60 (hr.gr g))
  have C3 := Lib.hid (fun w1 (g : Gr w w1) => Width_any a n c X Y A B D w1 n60 (hr.gr g))
  have C4 := Lib.hid (fun w1 (g : Gr w w1) => On_any a n c X Y A B D w1 n60 (hr.gr g))
  by_cases he : asE n X Y A B D = 0
  case neg =>
    have d1 : (asE n X Y A B D != 0) = true := by simpa using he
    have d2 : (asE n X Y A B D == 0) = false := by simpa using he
    have z1 : okM (asE n X Y A B D) (pairs n (reN X Y A B D) (reD X Y A B D)) = [] := if_neg he
    have z2 : okL (asE n X Y A B D) (onL (onP X Y A B D) n).length = 0 := if_neg he
    rw [z1] at C1
    rw [z2] at C4
    clear e1 hr h1 z1 z2 he
    generalize okN (asE n X Y A B D) (rN (sumA X Y A B D n) D) = cN at *
    generalize okN (asE n X Y A B D) (rD (sumA X Y A B D n) D) = cD at *
    generalize okN (asE n X Y A B D) (rN (maxA X Y A B D n) D) = uN at *
    generalize okN (asE n X Y A B D) (rD (maxA X Y A B D n) D) = uD at *
    generalize nf (onL (onP X Y A B D) n) = oF at *
    generalize asE n X Y A B D = E at *
    go_enter Try.func8, Try.ntmps8
    go_wp2_with (first
      | (go_at_call 15; refine (HL.out _).mono ?_; rintro e w' ⟨rfl, rfl⟩)
      | (go_at_call 26; refine (C1.out _ G0.out).mono ?_; rintro e w1 ⟨a1, c1, rfl, m1, m2, rd1, g1⟩; have G1 := Lib.hid (G0.out.trans g1); have B31 := Lib.hid (B3.out.gr g1); obtain ⟨y0, y1, y2, _, _, _⟩ := B31.out; clear g1 rd1 m1 m2)
      | (go_at_call 33; refine (C2.out _ G1.out).mono ?_; rintro e w2 ⟨rfl, g2⟩; have G2 := Lib.hid ((G1.out.trans g2).alloc (.cells #[.int .i64 cN, .int .i64 cD] 27)); have B32 := Lib.hid (B31.out.gr (g2.alloc (.cells #[.int .i64 cN, .int .i64 cD] 27))); obtain ⟨x0, x1, x2, _, _, _⟩ := B32.out; clear g2)
      | (go_at_call 35; refine (C3.out _ G2.out).mono ?_; rintro e w3 ⟨rfl, g3⟩; have G3 := Lib.hid ((G2.out.trans g3).alloc (.cells #[.int .i64 uN, .int .i64 uD] 27)); have B33 := Lib.hid (B32.out.gr (g3.alloc (.cells #[.int .i64 uN, .int .i64 uD] 27))); obtain ⟨v0, v1, v2, _, _, _⟩ := B33.out; clear g3)
      | (go_at_call 37; refine (C4.out _ G3.out).mono ?_; rintro e w4 ⟨a4, c4, rfl, m3, m4, rd4, g4⟩; have G4 := Lib.hid (G3.out.trans g4); clear g4 rd4 m3 m4)
      | (go_at_call 16; refine (Awake_any _).mono ?_; rintro e w6 ⟨rfl, hg11⟩))
    go_ret
    exact ⟨rfl, G4.out.trans hg11⟩
  case pos =>
    obtain ⟨V, IL⟩ := asE_ok he
    have n12 := V.few
    have n2 := V.two
    have k1 : okM (asE n X Y A B D) (pairs n (reN X Y A B D) (reD X Y A B D)) = pairs n (reN X Y A B D) (reD X Y A B D) := if_pos he
    have k2 : okL (asE n X Y A B D) (onL (onP X Y A B D) n).length = (onL (onP X Y A B D) n).length := if_pos he
    have k3 : ∀ N, okN (asE n X Y A B D) N = N := fun N => if_pos he
    rw [k1, he] at C1
    rw [k3, k3, he] at C2
    rw [k3, k3, he] at C3
    rw [k2, he] at C4
    have HV := Lib.hid V
    have HI := Lib.hid IL
    have HR := Lib.hid hr
    have D1 := IL.2.2.1
    have D2 := IL.2.2.2
    have LM := pairs_length n (reN X Y A B D) (reD X Y A B D)
    obtain ⟨M, hM⟩ : ∃ M, pairs n (reN X Y A B D) (reD X Y A B D) = M := ⟨_, rfl⟩
    rw [hM] at C1 LM
    have PM := Lib.hid (show ∀ i, i < n → px M i = rN (rs (X i) (Y i) A B D) D ∧ py M i = rD (rs (X i) (Y i) A B D) D from fun i hi => by rw [← hM]; exact ⟨px_pairs _ _ hi, py_pairs _ _ hi⟩)
    obtain ⟨O, hO⟩ : ∃ O, onL (onP X Y A B D) n = O := ⟨_, rfl⟩
    rw [hO] at C4
    have HO := Lib.hid hO
    have LO := onL_len (onP X Y A B D) n
    rw [hO] at LO
    have HS := Lib.hid (sumA_bd V.ok IL (Nat.le_refl n))
    have HX := Lib.hid (maxA_bd V.ok IL (Nat.le_refl n))
    obtain ⟨cN, hcN⟩ : ∃ x, rN (sumA X Y A B D n) D = x := ⟨_, rfl⟩
    obtain ⟨cD, hcD⟩ : ∃ x, rD (sumA X Y A B D n) D = x := ⟨_, rfl⟩
    obtain ⟨uN, huN⟩ : ∃ x, rN (maxA X Y A B D n) D = x := ⟨_, rfl⟩
    obtain ⟨uD, huD⟩ : ∃ x, rD (maxA X Y A B D n) D = x := ⟨_, rfl⟩
    rw [hcN, hcD] at C2
    rw [huN, huD] at C3
    have HC := Lib.hid (⟨hcN, hcD, huN, huD⟩ : rN (sumA X Y A B D n) D = cN ∧ rD (sumA X Y A B D n) D = cD ∧ rN (maxA X Y A B D n) D = uN ∧ rD (maxA X Y A B D n) D = uD)
    clear e1 hr h1 he V IL k1 k2 k3 hM hO hcN hcD huN huD hn
    have ez : ((n : Int) == 0) = false := by simp; omega
    have el : M.length = n := LM
    go_enter Try.func8, Try.ntmps8
    go_wp2_with (first
      | (go_at_call 15; refine (HL.out _).mono ?_; rintro e w' ⟨rfl, rfl⟩)
      | (go_at_call 26; refine (C1.out _ G0.out).mono ?_; rintro e w1 ⟨a1, c1, rfl, m1, m2, rd1, g1⟩; rw [el] at rd1 ⊢; have G1 := Lib.hid (G0.out.trans g1); have B31 := Lib.hid (B3.out.gr g1); have R1 := Lib.hid rd1; obtain ⟨y0, y1, y2, _, _, _⟩ := B31.out; clear g1 rd1 m1 m2)
      | (go_at_call 33; refine (C2.out _ G1.out).mono ?_; rintro e w2 ⟨rfl, g2⟩; have g2' := Lib.hid (g2.alloc (.cells #[.int .i64 cN, .int .i64 cD] 27)); have G2 := Lib.hid (G1.out.trans g2'.out); have B32 := Lib.hid (B31.out.gr g2'.out); have R2 := Lib.hid (R1.out.gr g2'.out); have T7 := Lib.hid (show Box2 (w2.alloc (.cells #[.int .i64 cN, .int .i64 cD] 27)) w2.heap.size cN cD from Box2.new rfl); obtain ⟨x0, x1, x2, _, _, _⟩ := B32.out; clear g2)
      | (go_at_call 35; refine (C3.out _ G2.out).mono ?_; rintro e w3 ⟨rfl, g3⟩; have g3' := Lib.hid (g3.alloc (.cells #[.int .i64 uN, .int .i64 uD] 27)); have G3 := Lib.hid (G2.out.trans g3'.out); have B33 := Lib.hid (B32.out.gr g3'.out); have R3 := Lib.hid (R2.out.gr g3'.out); have T73 := Lib.hid (T7.out.gr g3'.out); have T9 := Lib.hid (show Box2 (w3.alloc (.cells #[.int .i64 uN, .int .i64 uD] 27)) w3.heap.size uN uD from Box2.new rfl); obtain ⟨v0, v1, v2, _, _, _⟩ := B33.out; clear g3)
      | (go_at_call 37; refine (C4.out _ G3.out).mono ?_; rintro e w4 ⟨a4, c4, rfl, m3, m4, rd4, g4⟩; have G4 := Lib.hid (G3.out.trans g4); have B34 := Lib.hid (B33.out.gr g4); have R4 := Lib.hid (R3.out.gr g4); have T74 := Lib.hid (T73.out.gr g4); have T94 := Lib.hid (T9.out.gr g4); have RO := Lib.hid rd4; clear g4 rd4 m3 m4))
    clear l0 l1 l2 f0 f1 f2 y0 y1 y2 x0 x1 x2 v0 v1 v2 HL C1 C2 C3 C4 G0 G1 G2 G3 B3 B31 B32 B33 R1 R2 R3 T7 T73 T9 g2' g3'
    generalize hb7 : w2.heap.size = b7 at *
    generalize hb9 : w3.heap.size = b9 at *
    go_loopw [13, 14, 15, 106] (fun s13 s14 s15 s106 wr => ∃ i : Nat, i ≤ n ∧ s106 = .int .i64 i ∧ s13 = .int .i64 (sumA X Y A B D i) ∧ s14 = .int .i64 (maxA X Y A B D i) ∧ s15 = .int .i64 ((onL (onP X Y A B D) i).length : Nat) ∧ Hid (Gr w4 wr)) (fun _ _ _ s106 _ => n - (intOf s106).toNat)
    case atStart => exact ⟨0, Nat.zero_le _, rfl, rfl, rfl, rfl, Lib.hid (Gr.refl _)⟩
    case round =>
      obtain ⟨i, hi, rfl, rfl, rfl, rfl, hg⟩ := hrel
      have BS := sumA_bd HV.out.ok HI.out hi
      have BM := maxA_bd HV.out.ok HI.out hi
      by_cases hlt : i < n
      · obtain ⟨b, o, rfl, hcc⟩ := (R4.out.gr hg.out).at hlt
        obtain ⟨c0, c1'⟩ := hcc i hlt
        rw [(PM.out i hlt).1] at c0
        rw [(PM.out i hlt).2] at c1'
        have i1 : (i : Int) < n := by omega
        obtain ⟨q0, q1, q2, _, _, _⟩ := B34.out.gr hg.out
        have lw : w.heap.size < wr.heap.size := World.block_lt_of_cell? wr _ q0
        have RB := (rs_bd (HV.out.ok i hlt) HI.out).2.2
        have AB := absz RB
        obtain ⟨k1, k2, k3, k4, k5⟩ := back (s := rs (X i) (Y i) A B D) (show 0 < D by omega)
        have E1 := rD_pos (rs (X i) (Y i) A B D) (show 0 < D by omega)
        have S := Lib.hid (show sumA X Y A B D (i + 1) = sumA X Y A B D i + ab (rs (X i) (Y i) A B D) from rfl)
        have Mx := Lib.hid (show maxA X Y A B D (i + 1) = max (maxA X Y A B D i) (ab (rs (X i) (Y i) A B D)) from rfl)
        have OS := Lib.hid (onL_succ (onP X Y A B D) i)
        have OP := Lib.hid (show onP X Y A B D i = decide (rs (X i) (Y i) A B D = 0) from rfl)
        have OA := Lib.hid (fun h => onL_at (p := onP X Y A B D) hlt h)
        have OPre := Lib.hid (onL_pre (p := onP X Y A B D) (show i + 1 ≤ n by omega))
        rw [HO.out] at OA OPre
        have AC := Lib.hid (ab_cases (rs (X i) (Y i) A B D))
        generalize sumA X Y A B D i = s at *
        generalize maxA X Y A B D i = m at *
        generalize rs (X i) (Y i) A B D = r at *
        generalize ab r = t at *
        generalize rN r D = rn at *
        generalize rD r D = rd at *
        generalize (Int.gcd r D : Int) = g at *
        generalize hL1 : onL (onP X Y A B D) (i + 1) = L1 at *
        generalize onL (onP X Y A B D) i = L at *
        generalize onP X Y A B D i = ob at *
        have w1 : wrap64 g = g := IntWalk.wrap64_in _ (by omega)
        have w2 : wrap64 r = r := IntWalk.wrap64_in _ (by omega)
        have w3 : wrap64 (s + t) = s + t := IntWalk.wrap64_in _ (by omega)
        have e0 : ¬ rd = 0 := by omega
        have e2 : (rd == 0) = false := by simpa using e0
        have e3 : ¬ rd < 1 := by omega
        have BM' := BM
        clear hcc BS BM hi
        have HZ := Lib.hid (hg.out.alloc (.cells #[.int .i64 rn, .int .i64 rd] 27))
        have m0 : 0 ≤ m := BM'.1
        rcases Int.lt_trichotomy r 0 with hr0 | hr0 | hr0
        · have OF := Lib.hid (show ob = false by rw [OP.out]; exact decide_eq_false (by omega))
          have OL := Lib.hid (show L1 = L by rw [OS.out, OF.out]; simp)
          have TA : t = -r := by have := AC.out; omega
          rw [TA] at w3 S Mx
          have f2 : (r == 0) = false := by simp; omega
          have w4' : wrap64 (-r) = -r := IntWalk.wrap64_in _ (by omega)
          have c2 : r < -r := by omega
          have c3 : ¬ m < r := by omega
          have TB := Lib.hid TA
          clear OS OP OA OPre AC AB TA
          by_cases hm : m < -r
          · have M0 := Lib.hid (show maxA X Y A B D (i + 1) = -r by rw [Mx.out]; omega)
            go_wp2_with fail
            go_quiet (fail)
            go_wp2_with fail
            go_roundw
            case rel => exact ⟨i + 1, by omega, by go_num, by rw [S.out, w3], by rw [M0.out], by rw [hL1, OL.out], Lib.hid (HZ.out.drewN _)⟩
            case measure => simp [intOf]; omega
          · have M0 := Lib.hid (show maxA X Y A B D (i + 1) = m by rw [Mx.out]; omega)
            go_wp2_with fail
            go_quiet (fail)
            go_wp2_with fail
            go_roundw
            case rel => exact ⟨i + 1, by omega, by go_num, by rw [S.out, w3], by rw [M0.out], by rw [hL1, OL.out], Lib.hid (HZ.out.drewN _)⟩
            case measure => simp [intOf]; omega
        · subst hr0
          have OF := Lib.hid (show ob = true by rw [OP.out]; rfl)
          have OL := Lib.hid (show L1 = L ++ [i] by rw [OS.out, OF.out]; rfl)
          have TA : t = 0 := by have := AC.out; omega
          rw [TA] at w3 S Mx
          have KL := Lib.hid (show L.length < O.length by obtain ⟨rr, e⟩ := OPre.out; rw [e, OL.out]; simp)
          have KA := Lib.hid (show nf O L.length = (i : Int) from OA.out OF.out)
          obtain ⟨bo, oo, rfl, hco⟩ := (RO.out.gr HZ.out).at KL.out
          have co := hco L.length KL.out
          rw [KA.out] at co
          have lk : (L.length : Int) < (O.length : Int) := by have := KL.out; omega
          have c3 : ¬ m < 0 := by omega
          have w30 : wrap64 s = s := by simpa using w3
          have KL2 : L.length ≤ 12 := by have := KL.out; omega
          clear OS OP OA OPre AC AB TA hco KL
          have M0 := Lib.hid (show maxA X Y A B D (i + 1) = m by rw [Mx.out]; omega)
          go_wp2_with fail
          go_quiet (fail)
          go_wp2_with fail
          go_roundw
          case rel => exact ⟨i + 1, by omega, by go_num, by rw [S.out]; congr 1; omega, by rw [M0.out], by rw [hL1, OL.out]; simp, Lib.hid (HZ.out.drewN _)⟩
          case measure => simp [intOf]; omega
        · have OF := Lib.hid (show ob = false by rw [OP.out]; exact decide_eq_false (by omega))
          have OL := Lib.hid (show L1 = L by rw [OS.out, OF.out]; simp)
          have TA : t = r := by have := AC.out; omega
          rw [TA] at w3 S Mx
          have f2 : (r == 0) = false := by simp; omega
          have w4' : wrap64 (-r) = -r := IntWalk.wrap64_in _ (by omega)
          have c2 : ¬ r < -r := by omega
          have TB := Lib.hid TA
          clear OS OP OA OPre AC AB TA
          by_cases hm : m < r
          · have c3 : ¬ r < -r := by omega
            have M0 := Lib.hid (show maxA X Y A B D (i + 1) = r by rw [Mx.out]; omega)
            go_wp2_with fail
            go_quiet (fail)
            go_wp2_with fail
            go_roundw
            case rel => exact ⟨i + 1, by omega, by go_num, by rw [S.out, w3], by rw [M0.out], by rw [hL1, OL.out], Lib.hid (HZ.out.drewN _)⟩
            case measure => simp [intOf]; omega
          · have c3 : ¬ m < -r := by omega
            have M0 := Lib.hid (show maxA X Y A B D (i + 1) = m by rw [Mx.out]; omega)
            go_wp2_with fail
            go_quiet (fail)
            go_wp2_with fail
            go_roundw
            case rel => exact ⟨i + 1, by omega, by go_num, by rw [S.out, w3], by rw [M0.out], by rw [hL1, OL.out], Lib.hid (HZ.out.drewN _)⟩
            case measure => simp [intOf]; omega
      · have ei : n = i := by omega
        subst ei
        have n1 : ¬ (n : Int) < (n : Int) := by omega
        have KS := (HS.out).1
        have KS2 := (HS.out).2
        have KX := (HX.out).1
        have KX2 := (HX.out).2
        have RC := Lib.hid (fun w' => Ratio_any (sumA X Y A B D n) D w' (by unfold Sz; omega) (by unfold Sz; omega) (by omega))
        have RW := Lib.hid (fun w' => Ratio_any (maxA X Y A B D n) D w' (by unfold Sz; omega) (by unfold Sz; omega) (by omega))
        rw [HC.out.1, HC.out.2.1] at RC
        rw [HC.out.2.2.1, HC.out.2.2.2] at RW
        have GX := Lib.hid hg.out
        obtain ⟨q0, q1, q2, _, _, _⟩ := B34.out.gr hg.out
        obtain ⟨x0, x1, _, _⟩ := T74.out.gr hg.out
        obtain ⟨y0, y1, _, _⟩ := T94.out.gr hg.out
        rw [HO.out]
        clear BS BM hlt hi
        generalize sumA X Y A B D n = s at *
        generalize maxA X Y A B D n = m at *
        go_wp2_with fail
        refine (wpIn_wide (n := 3)).1 ?_
        refine wpIn_region_held (fun w' => Gr wr w') 20 (by kernel_rfl) rfl rfl ?_
        have hS : Gr wr wr.drew := (Gr.refl wr).drew
        iterate 8 (first
          | (refine wpAnyHIn_take 0 (v := ?_) rfl (by kernel_rfl) (by kernel_rfl) (by kernel_rfl) (by decide +kernel) (fun _ _ _ h => h) (fun _ _ _ => trivial) (by rfl) (fun w' hSw => ?_) hS ?_; rotate_left 1; (focus (have z0 := hSw.cell q2; have z1 := hSw.cell x0; have z2 := hSw.cell x1; have z3 := hSw.cell y0; have z4 := hSw.cell y1; go_simp; try with_reducible rfl)); simp only [Act.put, List.setIfInBounds_toArray, List.set_cons_zero, List.set_cons_succ])
          | (refine wpAnyHIn_take 1 (v := ?_) rfl (by kernel_rfl) (by kernel_rfl) (by kernel_rfl) (by decide +kernel) (fun _ _ _ h => h) (fun _ _ _ => trivial) (by rfl) (fun w' hSw => ?_) hS ?_; rotate_left 1; (focus (have z0 := hSw.cell q2; have z1 := hSw.cell x0; have z2 := hSw.cell x1; have z3 := hSw.cell y0; have z4 := hSw.cell y1; go_simp; try with_reducible rfl)); simp only [Act.put, List.setIfInBounds_toArray, List.set_cons_zero, List.set_cons_succ])
          | (refine wpAnyHIn_take 2 (v := ?_) rfl (by kernel_rfl) (by kernel_rfl) (by kernel_rfl) (by decide +kernel) (fun _ _ _ h => h) (fun _ _ _ => trivial) (by rfl) (fun w' hSw => ?_) hS ?_; rotate_left 1; (focus (have z0 := hSw.cell q2; have z1 := hSw.cell x0; have z2 := hSw.cell x1; have z3 := hSw.cell y0; have z4 := hSw.cell y1; go_simp; try with_reducible rfl)); simp only [Act.put, List.setIfInBounds_toArray, List.set_cons_zero, List.set_cons_succ])
          | (refine wpAnyHIn_take 3 (v := ?_) rfl (by kernel_rfl) (by kernel_rfl) (by kernel_rfl) (by decide +kernel) (fun _ _ _ h => h) (fun _ _ _ => trivial) (by rfl) (fun w' hSw => ?_) hS ?_; rotate_left 1; (focus (have z0 := hSw.cell q2; have z1 := hSw.cell x0; have z2 := hSw.cell x1; have z3 := hSw.cell y0; have z4 := hSw.cell y1; go_simp; try with_reducible rfl)); simp only [Act.put, List.setIfInBounds_toArray, List.set_cons_zero, List.set_cons_succ])
          | (refine wpAnyHIn_take 4 (v := ?_) rfl (by kernel_rfl) (by kernel_rfl) (by kernel_rfl) (by decide +kernel) (fun _ _ _ h => h) (fun _ _ _ => trivial) (by rfl) (fun w' hSw => ?_) hS ?_; rotate_left 1; (focus (have z0 := hSw.cell q2; have z1 := hSw.cell x0; have z2 := hSw.cell x1; have z3 := hSw.cell y0; have z4 := hSw.cell y1; go_simp; try with_reducible rfl)); simp only [Act.put, List.setIfInBounds_toArray, List.set_cons_zero, List.set_cons_succ])
          | (refine wpAnyHIn_take 5 (v := ?_) rfl (by kernel_rfl) (by kernel_rfl) (by kernel_rfl) (by decide +kernel) (fun _ _ _ h => h) (fun _ _ _ => trivial) (by rfl) (fun w' hSw => ?_) hS ?_; rotate_left 1; (focus (have z0 := hSw.cell q2; have z1 := hSw.cell x0; have z2 := hSw.cell x1; have z3 := hSw.cell y0; have z4 := hSw.cell y1; go_simp; try with_reducible rfl)); simp only [Act.put, List.setIfInBounds_toArray, List.set_cons_zero, List.set_cons_succ])
          | (refine wpAnyHIn_take 6 (v := ?_) rfl (by kernel_rfl) (by kernel_rfl) (by kernel_rfl) (by decide +kernel) (fun _ _ _ h => h) (fun _ _ _ => trivial) (by rfl) (fun w' hSw => ?_) hS ?_; rotate_left 1; (focus (have z0 := hSw.cell q2; have z1 := hSw.cell x0; have z2 := hSw.cell x1; have z3 := hSw.cell y0; have z4 := hSw.cell y1; go_simp; try with_reducible rfl)); simp only [Act.put, List.setIfInBounds_toArray, List.set_cons_zero, List.set_cons_succ])
          | (refine wpAnyHIn_take 7 (v := ?_) rfl (by kernel_rfl) (by kernel_rfl) (by kernel_rfl) (by decide +kernel) (fun _ _ _ h => h) (fun _ _ _ => trivial) (by rfl) (fun w' hSw => ?_) hS ?_; rotate_left 1; (focus (have z0 := hSw.cell q2; have z1 := hSw.cell x0; have z2 := hSw.cell x1; have z3 := hSw.cell y0; have z4 := hSw.cell y1; go_simp; try with_reducible rfl)); simp only [Act.put, List.setIfInBounds_toArray, List.set_cons_zero, List.set_cons_succ]))
        iterate 1 (first
          | (refine wpAnyHIn_take 9 (v := ?_) rfl (by kernel_rfl) (by kernel_rfl) (by kernel_rfl) (by decide +kernel) (fun _ _ _ h => h) (fun _ _ _ => trivial) (by rfl) (fun w' hSw => ?_) hS ?_; rotate_left 1; (focus (have z0 := hSw.cell q2; have z1 := hSw.cell x0; have z2 := hSw.cell x1; have z3 := hSw.cell y0; have z4 := hSw.cell y1; go_simp; try with_reducible rfl)); simp only [Act.put, List.setIfInBounds_toArray, List.set_cons_zero, List.set_cons_succ]))
        refine wpAnyHIn_ready [8] (by kernel_rfl) (by simp) ?_
        refine AllHIn.cons rfl (by rfl) (fun K hK => ?_) AllHIn.nil
        go_simp
        refine ⟨trivial, ?_⟩
        refine (callsIn_wide.2 (RC.out _)).mono ?_
        rintro e wX ⟨rfl, gX⟩
        have hS : Gr wr wX := hS.trans gX
        refine hK.out _ _ hS ?_
        clear hK K gX
        iterate 6 (first
          | (refine wpAnyHIn_take 10 (v := ?_) rfl (by kernel_rfl) (by kernel_rfl) (by kernel_rfl) (by decide +kernel) (fun _ _ _ h => h) (fun _ _ _ => trivial) (by rfl) (fun w' hSw => ?_) hS ?_; rotate_left 1; (focus (have z0 := hSw.cell q2; have z1 := hSw.cell x0; have z2 := hSw.cell x1; have z3 := hSw.cell y0; have z4 := hSw.cell y1; go_simp; try with_reducible rfl)); simp only [Act.put, List.setIfInBounds_toArray, List.set_cons_zero, List.set_cons_succ])
          | (refine wpAnyHIn_take 11 (v := ?_) rfl (by kernel_rfl) (by kernel_rfl) (by kernel_rfl) (by decide +kernel) (fun _ _ _ h => h) (fun _ _ _ => trivial) (by rfl) (fun w' hSw => ?_) hS ?_; rotate_left 1; (focus (have z0 := hSw.cell q2; have z1 := hSw.cell x0; have z2 := hSw.cell x1; have z3 := hSw.cell y0; have z4 := hSw.cell y1; go_simp; try with_reducible rfl)); simp only [Act.put, List.setIfInBounds_toArray, List.set_cons_zero, List.set_cons_succ])
          | (refine wpAnyHIn_take 12 (v := ?_) rfl (by kernel_rfl) (by kernel_rfl) (by kernel_rfl) (by decide +kernel) (fun _ _ _ h => h) (fun _ _ _ => trivial) (by rfl) (fun w' hSw => ?_) hS ?_; rotate_left 1; (focus (have z0 := hSw.cell q2; have z1 := hSw.cell x0; have z2 := hSw.cell x1; have z3 := hSw.cell y0; have z4 := hSw.cell y1; go_simp; try with_reducible rfl)); simp only [Act.put, List.setIfInBounds_toArray, List.set_cons_zero, List.set_cons_succ])
          | (refine wpAnyHIn_take 13 (v := ?_) rfl (by kernel_rfl) (by kernel_rfl) (by kernel_rfl) (by decide +kernel) (fun _ _ _ h => h) (fun _ _ _ => trivial) (by rfl) (fun w' hSw => ?_) hS ?_; rotate_left 1; (focus (have z0 := hSw.cell q2; have z1 := hSw.cell x0; have z2 := hSw.cell x1; have z3 := hSw.cell y0; have z4 := hSw.cell y1; go_simp; try with_reducible rfl)); simp only [Act.put, List.setIfInBounds_toArray, List.set_cons_zero, List.set_cons_succ])
          | (refine wpAnyHIn_take 14 (v := ?_) rfl (by kernel_rfl) (by kernel_rfl) (by kernel_rfl) (by decide +kernel) (fun _ _ _ h => h) (fun _ _ _ => trivial) (by rfl) (fun w' hSw => ?_) hS ?_; rotate_left 1; (focus (have z0 := hSw.cell q2; have z1 := hSw.cell x0; have z2 := hSw.cell x1; have z3 := hSw.cell y0; have z4 := hSw.cell y1; go_simp; try with_reducible rfl)); simp only [Act.put, List.setIfInBounds_toArray, List.set_cons_zero, List.set_cons_succ])
          | (refine wpAnyHIn_take 15 (v := ?_) rfl (by kernel_rfl) (by kernel_rfl) (by kernel_rfl) (by decide +kernel) (fun _ _ _ h => h) (fun _ _ _ => trivial) (by rfl) (fun w' hSw => ?_) hS ?_; rotate_left 1; (focus (have z0 := hSw.cell q2; have z1 := hSw.cell x0; have z2 := hSw.cell x1; have z3 := hSw.cell y0; have z4 := hSw.cell y1; go_simp; try with_reducible rfl)); simp only [Act.put, List.setIfInBounds_toArray, List.set_cons_zero, List.set_cons_succ]))
        iterate 1 (first
          | (refine wpAnyHIn_take 17 (v := ?_) rfl (by kernel_rfl) (by kernel_rfl) (by kernel_rfl) (by decide +kernel) (fun _ _ _ h => h) (fun _ _ _ => trivial) (by rfl) (fun w' hSw => ?_) hS ?_; rotate_left 1; (focus (have z0 := hSw.cell q2; have z1 := hSw.cell x0; have z2 := hSw.cell x1; have z3 := hSw.cell y0; have z4 := hSw.cell y1; go_simp; try with_reducible rfl)); simp only [Act.put, List.setIfInBounds_toArray, List.set_cons_zero, List.set_cons_succ]))
        refine wpAnyHIn_ready [16] (by kernel_rfl) (by simp) ?_
        refine AllHIn.cons rfl (by rfl) (fun K hK => ?_) AllHIn.nil
        go_simp
        refine ⟨trivial, ?_⟩
        refine (callsIn_wide.2 (RW.out _)).mono ?_
        rintro e wX ⟨rfl, gX⟩
        have hS : Gr wr wX := hS.trans gX
        refine hK.out _ _ hS ?_
        clear hK K gX
        iterate 2 (first
          | (refine wpAnyHIn_take 18 (v := ?_) rfl (by kernel_rfl) (by kernel_rfl) (by kernel_rfl) (by decide +kernel) (fun _ _ _ h => h) (fun _ _ _ => trivial) (by rfl) (fun w' hSw => ?_) hS ?_; rotate_left 1; (focus (have z0 := hSw.cell q2; have z1 := hSw.cell x0; have z2 := hSw.cell x1; have z3 := hSw.cell y0; have z4 := hSw.cell y1; go_simp; try with_reducible rfl)); simp only [Act.put, List.setIfInBounds_toArray, List.set_cons_zero, List.set_cons_succ])
          | (refine wpAnyHIn_take 19 (v := ?_) rfl (by kernel_rfl) (by kernel_rfl) (by kernel_rfl) (by decide +kernel) (fun _ _ _ h => h) (fun _ _ _ => trivial) (by rfl) (fun w' hSw => ?_) hS ?_; rotate_left 1; (focus (have z0 := hSw.cell q2; have z1 := hSw.cell x0; have z2 := hSw.cell x1; have z3 := hSw.cell y0; have z4 := hSw.cell y1; go_simp; try with_reducible rfl)); simp only [Act.put, List.setIfInBounds_toArray, List.set_cons_zero, List.set_cons_succ]))
        refine wpAnyHIn_done (by kernel_rfl) ?_ _
        have LE := leE_ok HV.out
        have HLe := Lib.hid (fun w1 (g : Gr w w1) => Least_any a n c X Y w1 n60 (HR.out.gr g))
        rw [LE] at HLe
        have GZ := Lib.hid ((G4.out.trans GX.out).trans hS)
        have SE := Lib.hid (smB_end HV.out)
        obtain ⟨N0, hN0⟩ : ∃ x, leN n X Y = x := ⟨_, rfl⟩
        obtain ⟨D0, hD0⟩ : ∃ x, leD n X Y = x := ⟨_, rfl⟩
        rw [hN0, hD0] at HLe SE
        clear hN0 hD0 LE hS q0 q1 q2 x0 x1 y0 y1 RC RW KS KS2 KX KX2 GX
        go_wp2_with (go_at_call 19; refine (HLe.out _ GZ.out).mono ?_; rintro e w5 ⟨rfl, g5⟩; have g5' := g5.alloc (.cells #[.int .i64 N0, .int .i64 D0] 27); have G5 := Lib.hid (GZ.out.trans g5'); have B19 := Lib.hid (show Box2 (w5.alloc (.cells #[.int .i64 N0, .int .i64 D0] 27)) w5.heap.size N0 D0 from Box2.new rfl); clear g5 g5')
        generalize w5.alloc (.cells #[.int .i64 N0, .int .i64 D0] 27) = w6 at *
        generalize w5.heap.size = b19 at *
        go_loopw [20, 185] (fun s20 s185 wr => ∃ i : Nat, i ≤ n ∧ s185 = .int .i64 i ∧ s20 = .bool (smB n X Y N0 D0 (prs X i)) ∧ Hid (Gr w wr) ∧ Hid (Box2 wr b19 N0 D0)) (fun _ s185 _ => n - (intOf s185).toNat)
        case atStart => exact ⟨0, Nat.zero_le _, rfl, rfl, G5, B19⟩
        case round =>
          obtain ⟨i, hi, rfl, rfl, hg, hb⟩ := hrel
          by_cases hlt : i < n
          · have i1 : (i : Int) < n := by omega
            have Hg := Lib.hid hg.out
            have Hb := Lib.hid hb.out
            clear hg hb
            go_wp2_with fail
            go_loopw [20, 189] (fun s20 s189 wr => ∃ j : Nat, j ≤ i ∧ s189 = .int .i64 j ∧ s20 = .bool (smB n X Y N0 D0 (prs X i ++ prow X i j)) ∧ Hid (Gr w wr) ∧ Hid (Box2 wr b19 N0 D0)) (fun _ s189 _ => i - (intOf s189).toNat)
            case atStart => exact ⟨0, Nat.zero_le _, rfl, by rw [show prs X i ++ prow X i 0 = prs X i from List.append_nil _], Hg, Hb⟩
            case round =>
              obtain ⟨j, hj, rfl, rfl, hg, hb⟩ := hrel
              by_cases hlj : j < i
              · have j1 : (j : Int) < i := by omega
                have j2 : (j : Int) < n := by omega
                obtain ⟨b, o, rfl, hcc⟩ := (HR.out.gr hg.out).at hlt
                obtain ⟨c0, c1x⟩ := hcc i hlt
                obtain ⟨d0, d1x⟩ := hcc j (by omega)
                have lb : b < wr.heap.size := World.block_lt_of_cell? wr _ c0
                have RW := Lib.hid (show prs X i ++ prow X i (j + 1) = if X j ≠ X i then (prs X i ++ prow X i j) ++ [(j, i)] else prs X i ++ prow X i j by rw [prow_succ_if]; split <;> simp)
                have SMS := Lib.hid (smB_snoc n X Y N0 D0 (prs X i ++ prow X i j) (j, i))
                have TC := Lib.hid (fun w' => Through_any (X j) (Y j) (X i) (Y i) w')
                have pj := HV.out.ok j (by omega)
                have pi := HV.out.ok i hlt
                clear hcc
                by_cases hx : X j = X i
                · have TE : thE (X j) (Y j) (X i) (Y i) = 5 := by unfold thE; rw [inPB_iff.2 pj, inPB_iff.2 pi, hx]; simp
                  rw [TE] at TC
                  have RX := Lib.hid (show prs X i ++ prow X i (j + 1) = prs X i ++ prow X i j by rw [RW.out, if_neg (fun h => h hx)])
                  have TC := Lib.hid (show ∀ w', Calls Try.prog 45 #[.agg #[.int .i64 (X i), .int .i64 (Y j)], .agg #[.int .i64 (X i), .int .i64 (Y i)]] w' (RetLE 0 0 0 5 w') from fun w' => by have h := TC.out w'; rw [hx] at h; exact h)
                  rw [hx] at d0
                  clear RW hx pj pi TE SMS
                  generalize hsb : smB n X Y N0 D0 (prs X i ++ prow X i j) = sb at *
                  generalize Y j = yj at *
                  generalize X i = xi at *
                  generalize Y i = yi at *
                  go_wp2_with fail
                  refine (wpIn_wide (n := 3)).1 ?_
                  refine wpIn_region_held (fun w' => Gr wr w') 15 (by kernel_rfl) rfl rfl ?_
                  have hS : Gr wr wr.drew := (Gr.refl wr).drew
                  iterate 8 (first
                    | (refine wpAnyHIn_take 0 (v := ?_) rfl (by kernel_rfl) (by kernel_rfl) (by kernel_rfl) (by decide +kernel) (fun _ _ _ h => h) (fun _ _ _ => trivial) (by rfl) (fun w' hSw => ?_) hS ?_; rotate_left 1; (focus (have z0 := hSw.cell c0; have z1 := hSw.cell c1x; have z2 := hSw.cell d0; have z3 := hSw.cell d1x; go_simp; try with_reducible rfl)); simp only [Act.put, List.setIfInBounds_toArray, List.set_cons_zero, List.set_cons_succ])
                    | (refine wpAnyHIn_take 1 (v := ?_) rfl (by kernel_rfl) (by kernel_rfl) (by kernel_rfl) (by decide +kernel) (fun _ _ _ h => h) (fun _ _ _ => trivial) (by rfl) (fun w' hSw => ?_) hS ?_; rotate_left 1; (focus (have z0 := hSw.cell c0; have z1 := hSw.cell c1x; have z2 := hSw.cell d0; have z3 := hSw.cell d1x; go_simp; try with_reducible rfl)); simp only [Act.put, List.setIfInBounds_toArray, List.set_cons_zero, List.set_cons_succ])
                    | (refine wpAnyHIn_take 2 (v := ?_) rfl (by kernel_rfl) (by kernel_rfl) (by kernel_rfl) (by decide +kernel) (fun _ _ _ h => h) (fun _ _ _ => trivial) (by rfl) (fun w' hSw => ?_) hS ?_; rotate_left 1; (focus (have z0 := hSw.cell c0; have z1 := hSw.cell c1x; have z2 := hSw.cell d0; have z3 := hSw.cell d1x; go_simp; try with_reducible rfl)); simp only [Act.put, List.setIfInBounds_toArray, List.set_cons_zero, List.set_cons_succ])
                    | (refine wpAnyHIn_take 3 (v := ?_) rfl (by kernel_rfl) (by kernel_rfl) (by kernel_rfl) (by decide +kernel) (fun _ _ _ h => h) (fun _ _ _ => trivial) (by rfl) (fun w' hSw => ?_) hS ?_; rotate_left 1; (focus (have z0 := hSw.cell c0; have z1 := hSw.cell c1x; have z2 := hSw.cell d0; have z3 := hSw.cell d1x; go_simp; try with_reducible rfl)); simp only [Act.put, List.setIfInBounds_toArray, List.set_cons_zero, List.set_cons_succ])
                    | (refine wpAnyHIn_take 4 (v := ?_) rfl (by kernel_rfl) (by kernel_rfl) (by kernel_rfl) (by decide +kernel) (fun _ _ _ h => h) (fun _ _ _ => trivial) (by rfl) (fun w' hSw => ?_) hS ?_; rotate_left 1; (focus (have z0 := hSw.cell c0; have z1 := hSw.cell c1x; have z2 := hSw.cell d0; have z3 := hSw.cell d1x; go_simp; try with_reducible rfl)); simp only [Act.put, List.setIfInBounds_toArray, List.set_cons_zero, List.set_cons_succ])
                    | (refine wpAnyHIn_take 5 (v := ?_) rfl (by kernel_rfl) (by kernel_rfl) (by kernel_rfl) (by decide +kernel) (fun _ _ _ h => h) (fun _ _ _ => trivial) (by rfl) (fun w' hSw => ?_) hS ?_; rotate_left 1; (focus (have z0 := hSw.cell c0; have z1 := hSw.cell c1x; have z2 := hSw.cell d0; have z3 := hSw.cell d1x; go_simp; try with_reducible rfl)); simp only [Act.put, List.setIfInBounds_toArray, List.set_cons_zero, List.set_cons_succ])
                    | (refine wpAnyHIn_take 6 (v := ?_) rfl (by kernel_rfl) (by kernel_rfl) (by kernel_rfl) (by decide +kernel) (fun _ _ _ h => h) (fun _ _ _ => trivial) (by rfl) (fun w' hSw => ?_) hS ?_; rotate_left 1; (focus (have z0 := hSw.cell c0; have z1 := hSw.cell c1x; have z2 := hSw.cell d0; have z3 := hSw.cell d1x; go_simp; try with_reducible rfl)); simp only [Act.put, List.setIfInBounds_toArray, List.set_cons_zero, List.set_cons_succ])
                    | (refine wpAnyHIn_take 7 (v := ?_) rfl (by kernel_rfl) (by kernel_rfl) (by kernel_rfl) (by decide +kernel) (fun _ _ _ h => h) (fun _ _ _ => trivial) (by rfl) (fun w' hSw => ?_) hS ?_; rotate_left 1; (focus (have z0 := hSw.cell c0; have z1 := hSw.cell c1x; have z2 := hSw.cell d0; have z3 := hSw.cell d1x; go_simp; try with_reducible rfl)); simp only [Act.put, List.setIfInBounds_toArray, List.set_cons_zero, List.set_cons_succ]))
                  refine wpAnyHIn_ready [8, 12] (by kernel_rfl) (by simp) ?_
                  refine AllHIn.cons rfl (by rfl) (fun K hK => ?_) (AllHIn.cons rfl (by rfl) (fun K hK => ?_) AllHIn.nil)
                  · go_simp
                    refine ⟨trivial, ?_⟩
                    refine (callsIn_wide.2 (TC.out _)).mono ?_
                    rintro e w3 ⟨rfl, g3⟩
                    have hS : Gr wr w3 := hS.trans g3
                    refine hK.out _ _ hS ?_
                    clear hK K
                    iterate 3 (first
                      | (refine wpAnyHIn_take 9 (v := ?_) rfl (by kernel_rfl) (by kernel_rfl) (by kernel_rfl) (by decide +kernel) (fun _ _ _ h => h) (fun _ _ _ => trivial) (by rfl) (fun w' hSw => ?_) hS ?_; rotate_left 1; (focus (skip; go_simp; try with_reducible rfl)); simp only [Act.put, List.setIfInBounds_toArray, List.set_cons_zero, List.set_cons_succ])
                      | (refine wpAnyHIn_take 10 (v := ?_) rfl (by kernel_rfl) (by kernel_rfl) (by kernel_rfl) (by decide +kernel) (fun _ _ _ h => h) (fun _ _ _ => trivial) (by rfl) (fun w' hSw => ?_) hS ?_; rotate_left 1; (focus (skip; go_simp; try with_reducible rfl)); simp only [Act.put, List.setIfInBounds_toArray, List.set_cons_zero, List.set_cons_succ])
                      | (refine wpAnyHIn_take 11 (v := ?_) rfl (by kernel_rfl) (by kernel_rfl) (by kernel_rfl) (by decide +kernel) (fun _ _ _ h => h) (fun _ _ _ => trivial) (by rfl) (fun w' hSw => ?_) hS ?_; rotate_left 1; (focus (skip; go_simp; try with_reducible rfl)); simp only [Act.put, List.setIfInBounds_toArray, List.set_cons_zero, List.set_cons_succ]))
                    refine wpAnyHIn_ready [12] (by kernel_rfl) (by simp) ?_
                    refine AllHIn.cons rfl (by rfl) (fun K hK => ?_) AllHIn.nil
                    go_simp
                    refine hK.out _ _ (hS.alloc _) ?_
                    clear hK K
                    refine wpAnyHIn_ready [13] (by kernel_rfl) (by simp) ?_
                    refine AllHIn.cons rfl (by rfl) (fun K hK => ?_) AllHIn.nil
                    go_simp
                    refine hK.out _ _ (hS.alloc (.cells #[.int .i64 0, .int .i64 0, .int .i64 0] 37)) ?_
                    clear hK K
                    have bx : Box3 (w3.alloc (.cells #[.int .i64 0, .int .i64 0, .int .i64 0] 37)) w3.heap.size 0 0 0 := Box3.new rfl
                    have hS := hS.alloc (.cells #[.int .i64 0, .int .i64 0, .int .i64 0] 37)
                    iterate 1 (first
                      | (refine wpAnyHIn_take 14 (v := ?_) rfl (by kernel_rfl) (by kernel_rfl) (by kernel_rfl) (by decide +kernel) (fun _ _ _ h => h) (fun _ _ _ => trivial) (by rfl) (fun w' hSw => ?_) hS ?_; rotate_left 1; (focus (skip; go_simp; try with_reducible rfl)); simp only [Act.put, List.setIfInBounds_toArray, List.set_cons_zero, List.set_cons_succ]))
                    refine wpAnyHIn_done (by kernel_rfl) ?_ _
                    go_wp2_with fail
                    go_roundw
                    case rel => exact ⟨j + 1, by omega, by go_num, by rw [RX.out, hsb], Lib.hid (hg.out.trans hS), Lib.hid (hb.out.gr hS)⟩
                    case measure => simp [intOf]; omega
                  · go_simp
                    have hS := hS.alloc (.cells #[.int .i64 0, .int .i64 0, .int .i64 0] 37)
                    refine hK.out _ _ hS ?_
                    clear hK K
                    refine wpAnyHIn_ready [8] (by kernel_rfl) (by simp) ?_
                    refine AllHIn.cons rfl (by rfl) (fun K hK => ?_) AllHIn.nil
                    go_simp
                    refine ⟨trivial, ?_⟩
                    refine (callsIn_wide.2 (TC.out _)).mono ?_
                    rintro e w3 ⟨rfl, g3⟩
                    have hb3 := Box3.gr (Box3.new (w := wr) (e := 37) (x := 0) (y := 0) (z := 0) rfl) (((Gr.refl _).drew).trans g3)
                    obtain ⟨y0, y1, y2, y3, y4, y5⟩ := hb3
                    have hS : Gr wr w3 := hS.trans g3
                    refine hK.out _ _ hS ?_
                    clear hK K
                    iterate 3 (first
                      | (refine wpAnyHIn_take 9 (v := ?_) rfl (by kernel_rfl) (by kernel_rfl) (by kernel_rfl) (by decide +kernel) (fun _ _ _ h => h) (fun _ _ _ => trivial) (by rfl) (fun w' hSw => ?_) hS ?_; rotate_left 1; (focus (skip; go_simp; try with_reducible rfl)); simp only [Act.put, List.setIfInBounds_toArray, List.set_cons_zero, List.set_cons_succ])
                      | (refine wpAnyHIn_take 10 (v := ?_) rfl (by kernel_rfl) (by kernel_rfl) (by kernel_rfl) (by decide +kernel) (fun _ _ _ h => h) (fun _ _ _ => trivial) (by rfl) (fun w' hSw => ?_) hS ?_; rotate_left 1; (focus (skip; go_simp; try with_reducible rfl)); simp only [Act.put, List.setIfInBounds_toArray, List.set_cons_zero, List.set_cons_succ])
                      | (refine wpAnyHIn_take 11 (v := ?_) rfl (by kernel_rfl) (by kernel_rfl) (by kernel_rfl) (by decide +kernel) (fun _ _ _ h => h) (fun _ _ _ => trivial) (by rfl) (fun w' hSw => ?_) hS ?_; rotate_left 1; (focus (skip; go_simp; try with_reducible rfl)); simp only [Act.put, List.setIfInBounds_toArray, List.set_cons_zero, List.set_cons_succ]))
                    refine wpAnyHIn_ready [13] (by kernel_rfl) (by simp) ?_
                    refine AllHIn.cons rfl (by rfl) (fun K hK => ?_) AllHIn.nil
                    go_simp
                    have hS := ((hS.setAt (Nat.le_refl _) (j := 0) (.int .i64 0)).setAt (Nat.le_refl _) (j := 1) (.int .i64 0)).setAt (Nat.le_refl _) (j := 2) (.int .i64 0)
                    refine hK.out _ _ hS ?_
                    clear hK K
                    have bx := Box3.put (show Box3 w3 wr.heap.size 0 0 0 from ⟨y0, y1, y2, y3, y4, y5⟩) (0) (0) (0)
                    iterate 1 (first
                      | (refine wpAnyHIn_take 14 (v := ?_) rfl (by kernel_rfl) (by kernel_rfl) (by kernel_rfl) (by decide +kernel) (fun _ _ _ h => h) (fun _ _ _ => trivial) (by rfl) (fun w' hSw => ?_) hS ?_; rotate_left 1; (focus (skip; go_simp; try with_reducible rfl)); simp only [Act.put, List.setIfInBounds_toArray, List.set_cons_zero, List.set_cons_succ]))
                    refine wpAnyHIn_done (by kernel_rfl) ?_ _
                    go_wp2_with fail
                    go_roundw
                    case rel => exact ⟨j + 1, by omega, by go_num, by rw [RX.out, hsb], Lib.hid (hg.out.trans hS), Lib.hid (hb.out.gr hS)⟩
                    case measure => simp [intOf]; omega
                · have TE : thE (X j) (Y j) (X i) (Y i) = 0 := by unfold thE; rw [inPB_iff.2 pj, inPB_iff.2 pi]; simp [hx]
                  rw [TE] at TC
                  have RX := Lib.hid (show prs X i ++ prow X i (j + 1) = (prs X i ++ prow X i j) ++ [(j, i)] by rw [RW.out, if_pos hx])
                  have hq : IsPr n X (j, i) := ⟨hlj, hlt, hx⟩
                  have TC := Lib.hid (show ∀ w', Calls Try.prog 45 #[.agg #[.int .i64 (X j), .int .i64 (Y j)], .agg #[.int .i64 (X i), .int .i64 (Y i)]] w' (RetLE (pA X Y (j, i)) (pB X Y (j, i)) (pD X Y (j, i)) 0 w') from TC.out)
                  have C33 := Lib.hid (show ∀ w1, Gr w w1 → Calls Try.prog 33 #[.slice (some ⟨b, o, none⟩) n c, .agg #[.int .i64 (pA X Y (j, i)), .int .i64 (pB X Y (j, i)), .int .i64 (pD X Y (j, i))]] w1 (RetRE (pN n X Y (j, i)) (pE n X Y (j, i)) 0 w1) from fun w1 g => by
                    have h := Cost_any (some ⟨b, o, none⟩) n c X Y (pA X Y (j, i)) (pB X Y (j, i)) (pD X Y (j, i)) w1 n60 (HR.out.gr g)
                    rw [asE_pair HV.out hq] at h
                    exact h)
                  clear RW hx hq pj pi TE
                  generalize hsb' : smB n X Y N0 D0 (prs X i ++ prow X i j ++ [(j, i)]) = sb' at *
                  generalize hsb : smB n X Y N0 D0 (prs X i ++ prow X i j) = sb at *
                  generalize X j = xj at *
                  generalize Y j = yj at *
                  generalize X i = xi at *
                  generalize Y i = yi at *
                  generalize pA X Y (j, i) = qA at *
                  generalize pB X Y (j, i) = qB at *
                  generalize pD X Y (j, i) = qD at *
                  generalize pN n X Y (j, i) = qN at *
                  generalize pE n X Y (j, i) = qE at *
                  go_wp2_with fail
                  refine (wpIn_wide (n := 3)).1 ?_
                  refine wpIn_region_held (fun w' => Gr wr w') 15 (by kernel_rfl) rfl rfl ?_
                  have hS : Gr wr wr.drew := (Gr.refl wr).drew
                  iterate 8 (first
                    | (refine wpAnyHIn_take 0 (v := ?_) rfl (by kernel_rfl) (by kernel_rfl) (by kernel_rfl) (by decide +kernel) (fun _ _ _ h => h) (fun _ _ _ => trivial) (by rfl) (fun w' hSw => ?_) hS ?_; rotate_left 1; (focus (have z0 := hSw.cell c0; have z1 := hSw.cell c1x; have z2 := hSw.cell d0; have z3 := hSw.cell d1x; go_simp; try with_reducible rfl)); simp only [Act.put, List.setIfInBounds_toArray, List.set_cons_zero, List.set_cons_succ])
                    | (refine wpAnyHIn_take 1 (v := ?_) rfl (by kernel_rfl) (by kernel_rfl) (by kernel_rfl) (by decide +kernel) (fun _ _ _ h => h) (fun _ _ _ => trivial) (by rfl) (fun w' hSw => ?_) hS ?_; rotate_left 1; (focus (have z0 := hSw.cell c0; have z1 := hSw.cell c1x; have z2 := hSw.cell d0; have z3 := hSw.cell d1x; go_simp; try with_reducible rfl)); simp only [Act.put, List.setIfInBounds_toArray, List.set_cons_zero, List.set_cons_succ])
                    | (refine wpAnyHIn_take 2 (v := ?_) rfl (by kernel_rfl) (by kernel_rfl) (by kernel_rfl) (by decide +kernel) (fun _ _ _ h => h) (fun _ _ _ => trivial) (by rfl) (fun w' hSw => ?_) hS ?_; rotate_left 1; (focus (have z0 := hSw.cell c0; have z1 := hSw.cell c1x; have z2 := hSw.cell d0; have z3 := hSw.cell d1x; go_simp; try with_reducible rfl)); simp only [Act.put, List.setIfInBounds_toArray, List.set_cons_zero, List.set_cons_succ])
                    | (refine wpAnyHIn_take 3 (v := ?_) rfl (by kernel_rfl) (by kernel_rfl) (by kernel_rfl) (by decide +kernel) (fun _ _ _ h => h) (fun _ _ _ => trivial) (by rfl) (fun w' hSw => ?_) hS ?_; rotate_left 1; (focus (have z0 := hSw.cell c0; have z1 := hSw.cell c1x; have z2 := hSw.cell d0; have z3 := hSw.cell d1x; go_simp; try with_reducible rfl)); simp only [Act.put, List.setIfInBounds_toArray, List.set_cons_zero, List.set_cons_succ])
                    | (refine wpAnyHIn_take 4 (v := ?_) rfl (by kernel_rfl) (by kernel_rfl) (by kernel_rfl) (by decide +kernel) (fun _ _ _ h => h) (fun _ _ _ => trivial) (by rfl) (fun w' hSw => ?_) hS ?_; rotate_left 1; (focus (have z0 := hSw.cell c0; have z1 := hSw.cell c1x; have z2 := hSw.cell d0; have z3 := hSw.cell d1x; go_simp; try with_reducible rfl)); simp only [Act.put, List.setIfInBounds_toArray, List.set_cons_zero, List.set_cons_succ])
                    | (refine wpAnyHIn_take 5 (v := ?_) rfl (by kernel_rfl) (by kernel_rfl) (by kernel_rfl) (by decide +kernel) (fun _ _ _ h => h) (fun _ _ _ => trivial) (by rfl) (fun w' hSw => ?_) hS ?_; rotate_left 1; (focus (have z0 := hSw.cell c0; have z1 := hSw.cell c1x; have z2 := hSw.cell d0; have z3 := hSw.cell d1x; go_simp; try with_reducible rfl)); simp only [Act.put, List.setIfInBounds_toArray, List.set_cons_zero, List.set_cons_succ])
                    | (refine wpAnyHIn_take 6 (v := ?_) rfl (by kernel_rfl) (by kernel_rfl) (by kernel_rfl) (by decide +kernel) (fun _ _ _ h => h) (fun _ _ _ => trivial) (by rfl) (fun w' hSw => ?_) hS ?_; rotate_left 1; (focus (have z0 := hSw.cell c0; have z1 := hSw.cell c1x; have z2 := hSw.cell d0; have z3 := hSw.cell d1x; go_simp; try with_reducible rfl)); simp only [Act.put, List.setIfInBounds_toArray, List.set_cons_zero, List.set_cons_succ])
                    | (refine wpAnyHIn_take 7 (v := ?_) rfl (by kernel_rfl) (by kernel_rfl) (by kernel_rfl) (by decide +kernel) (fun _ _ _ h => h) (fun _ _ _ => trivial) (by rfl) (fun w' hSw => ?_) hS ?_; rotate_left 1; (focus (have z0 := hSw.cell c0; have z1 := hSw.cell c1x; have z2 := hSw.cell d0; have z3 := hSw.cell d1x; go_simp; try with_reducible rfl)); simp only [Act.put, List.setIfInBounds_toArray, List.set_cons_zero, List.set_cons_succ]))
                  refine wpAnyHIn_ready [8, 12] (by kernel_rfl) (by simp) ?_
                  refine AllHIn.cons rfl (by rfl) (fun K hK => ?_) (AllHIn.cons rfl (by rfl) (fun K hK => ?_) AllHIn.nil)
                  · go_simp
                    refine ⟨trivial, ?_⟩
                    refine (callsIn_wide.2 (TC.out _)).mono ?_
                    rintro e w3 ⟨rfl, g3⟩
                    have hS : Gr wr w3 := hS.trans g3
                    refine hK.out _ _ hS ?_
                    clear hK K
                    iterate 3 (first
                      | (refine wpAnyHIn_take 9 (v := ?_) rfl (by kernel_rfl) (by kernel_rfl) (by kernel_rfl) (by decide +kernel) (fun _ _ _ h => h) (fun _ _ _ => trivial) (by rfl) (fun w' hSw => ?_) hS ?_; rotate_left 1; (focus (skip; go_simp; try with_reducible rfl)); simp only [Act.put, List.setIfInBounds_toArray, List.set_cons_zero, List.set_cons_succ])
                      | (refine wpAnyHIn_take 10 (v := ?_) rfl (by kernel_rfl) (by kernel_rfl) (by kernel_rfl) (by decide +kernel) (fun _ _ _ h => h) (fun _ _ _ => trivial) (by rfl) (fun w' hSw => ?_) hS ?_; rotate_left 1; (focus (skip; go_simp; try with_reducible rfl)); simp only [Act.put, List.setIfInBounds_toArray, List.set_cons_zero, List.set_cons_succ])
                      | (refine wpAnyHIn_take 11 (v := ?_) rfl (by kernel_rfl) (by kernel_rfl) (by kernel_rfl) (by decide +kernel) (fun _ _ _ h => h) (fun _ _ _ => trivial) (by rfl) (fun w' hSw => ?_) hS ?_; rotate_left 1; (focus (skip; go_simp; try with_reducible rfl)); simp only [Act.put, List.setIfInBounds_toArray, List.set_cons_zero, List.set_cons_succ]))
                    refine wpAnyHIn_ready [12] (by kernel_rfl) (by simp) ?_
                    refine AllHIn.cons rfl (by rfl) (fun K hK => ?_) AllHIn.nil
                    go_simp
                    refine hK.out _ _ (hS.alloc _) ?_
                    clear hK K
                    refine wpAnyHIn_ready [13] (by kernel_rfl) (by simp) ?_
                    refine AllHIn.cons rfl (by rfl) (fun K hK => ?_) AllHIn.nil
                    go_simp
                    refine hK.out _ _ (hS.alloc (.cells #[.int .i64 qA, .int .i64 qB, .int .i64 qD] 37)) ?_
                    clear hK K
                    have bx : Box3 (w3.alloc (.cells #[.int .i64 qA, .int .i64 qB, .int .i64 qD] 37)) w3.heap.size qA qB qD := Box3.new rfl
                    have hS := hS.alloc (.cells #[.int .i64 qA, .int .i64 qB, .int .i64 qD] 37)
                    iterate 1 (first
                      | (refine wpAnyHIn_take 14 (v := ?_) rfl (by kernel_rfl) (by kernel_rfl) (by kernel_rfl) (by decide +kernel) (fun _ _ _ h => h) (fun _ _ _ => trivial) (by rfl) (fun w' hSw => ?_) hS ?_; rotate_left 1; (focus (skip; go_simp; try with_reducible rfl)); simp only [Act.put, List.setIfInBounds_toArray, List.set_cons_zero, List.set_cons_succ]))
                    refine wpAnyHIn_done (by kernel_rfl) ?_ _
                    obtain ⟨x0, x1, x2, _, _, _⟩ := bx
                    rcases sb with _ | _
                    · by_cases h1 : qN = N0
                      · subst h1
                        by_cases h2 : qE = D0
                        · subst h2
                          go_wp2_with (go_at_call 33; refine (C33.out _ (hg.out.trans hS)).mono ?_; rintro e w7 ⟨rfl, g7⟩; have G7 := Lib.hid ((hS.trans g7).alloc (.cells #[.int .i64 qN, .int .i64 qE] 27)); obtain ⟨e0, e1, _, _⟩ := hb.out.gr G7.out)
                          go_roundw
                          case rel => exact ⟨j + 1, by omega, by go_num, by rw [RX.out, hsb', SMS.out]; simp, Lib.hid (hg.out.trans G7.out), Lib.hid (hb.out.gr G7.out)⟩
                          case measure => simp [intOf]; omega
                        · have hne : (qE == D0) = false := by simpa using h2
                          go_wp2_with (go_at_call 33; refine (C33.out _ (hg.out.trans hS)).mono ?_; rintro e w7 ⟨rfl, g7⟩; have G7 := Lib.hid ((hS.trans g7).alloc (.cells #[.int .i64 qN, .int .i64 qE] 27)); obtain ⟨e0, e1, _, _⟩ := hb.out.gr G7.out)
                          go_roundw
                          case rel => exact ⟨j + 1, by omega, by go_num, by rw [RX.out, hsb', SMS.out]; simp [h2], Lib.hid (hg.out.trans G7.out), Lib.hid (hb.out.gr G7.out)⟩
                          case measure => simp [intOf]; omega
                      · have hne : (qN == N0) = false := by simpa using h1
                        go_wp2_with (go_at_call 33; refine (C33.out _ (hg.out.trans hS)).mono ?_; rintro e w7 ⟨rfl, g7⟩; have G7 := Lib.hid ((hS.trans g7).alloc (.cells #[.int .i64 qN, .int .i64 qE] 27)); obtain ⟨e0, e1, _, _⟩ := hb.out.gr G7.out)
                        go_roundw
                        case rel => exact ⟨j + 1, by omega, by go_num, by rw [RX.out, hsb', SMS.out]; simp [h1], Lib.hid (hg.out.trans G7.out), Lib.hid (hb.out.gr G7.out)⟩
                        case measure => simp [intOf]; omega
                    · skip
                      go_wp2_with (go_at_call 33; refine (C33.out _ (hg.out.trans hS)).mono ?_; rintro e w7 ⟨rfl, g7⟩; have G7 := Lib.hid ((hS.trans g7).alloc (.cells #[.int .i64 qN, .int .i64 qE] 27)); obtain ⟨e0, e1, _, _⟩ := hb.out.gr G7.out)
                      go_roundw
                      case rel => exact ⟨j + 1, by omega, by go_num, by rw [RX.out, hsb', SMS.out]; simp, Lib.hid (hg.out.trans G7.out), Lib.hid (hb.out.gr G7.out)⟩
                      case measure => simp [intOf]; omega
                  · go_simp
                    have hS := hS.alloc (.cells #[.int .i64 0, .int .i64 0, .int .i64 0] 37)
                    refine hK.out _ _ hS ?_
                    clear hK K
                    refine wpAnyHIn_ready [8] (by kernel_rfl) (by simp) ?_
                    refine AllHIn.cons rfl (by rfl) (fun K hK => ?_) AllHIn.nil
                    go_simp
                    refine ⟨trivial, ?_⟩
                    refine (callsIn_wide.2 (TC.out _)).mono ?_
                    rintro e w3 ⟨rfl, g3⟩
                    have hb3 := Box3.gr (Box3.new (w := wr) (e := 37) (x := 0) (y := 0) (z := 0) rfl) (((Gr.refl _).drew).trans g3)
                    obtain ⟨y0, y1, y2, y3, y4, y5⟩ := hb3
                    have hS : Gr wr w3 := hS.trans g3
                    refine hK.out _ _ hS ?_
                    clear hK K
                    iterate 3 (first
                      | (refine wpAnyHIn_take 9 (v := ?_) rfl (by kernel_rfl) (by kernel_rfl) (by kernel_rfl) (by decide +kernel) (fun _ _ _ h => h) (fun _ _ _ => trivial) (by rfl) (fun w' hSw => ?_) hS ?_; rotate_left 1; (focus (skip; go_simp; try with_reducible rfl)); simp only [Act.put, List.setIfInBounds_toArray, List.set_cons_zero, List.set_cons_succ])
                      | (refine wpAnyHIn_take 10 (v := ?_) rfl (by kernel_rfl) (by kernel_rfl) (by kernel_rfl) (by decide +kernel) (fun _ _ _ h => h) (fun _ _ _ => trivial) (by rfl) (fun w' hSw => ?_) hS ?_; rotate_left 1; (focus (skip; go_simp; try with_reducible rfl)); simp only [Act.put, List.setIfInBounds_toArray, List.set_cons_zero, List.set_cons_succ])
                      | (refine wpAnyHIn_take 11 (v := ?_) rfl (by kernel_rfl) (by kernel_rfl) (by kernel_rfl) (by decide +kernel) (fun _ _ _ h => h) (fun _ _ _ => trivial) (by rfl) (fun w' hSw => ?_) hS ?_; rotate_left 1; (focus (skip; go_simp; try with_reducible rfl)); simp only [Act.put, List.setIfInBounds_toArray, List.set_cons_zero, List.set_cons_succ]))
                    refine wpAnyHIn_ready [13] (by kernel_rfl) (by simp) ?_
                    refine AllHIn.cons rfl (by rfl) (fun K hK => ?_) AllHIn.nil
                    go_simp
                    have hS := ((hS.setAt (Nat.le_refl _) (j := 0) (.int .i64 qA)).setAt (Nat.le_refl _) (j := 1) (.int .i64 qB)).setAt (Nat.le_refl _) (j := 2) (.int .i64 qD)
                    refine hK.out _ _ hS ?_
                    clear hK K
                    have bx := Box3.put (show Box3 w3 wr.heap.size 0 0 0 from ⟨y0, y1, y2, y3, y4, y5⟩) (qA) (qB) (qD)
                    iterate 1 (first
                      | (refine wpAnyHIn_take 14 (v := ?_) rfl (by kernel_rfl) (by kernel_rfl) (by kernel_rfl) (by decide +kernel) (fun _ _ _ h => h) (fun _ _ _ => trivial) (by rfl) (fun w' hSw => ?_) hS ?_; rotate_left 1; (focus (skip; go_simp; try with_reducible rfl)); simp only [Act.put, List.setIfInBounds_toArray, List.set_cons_zero, List.set_cons_succ]))
                    refine wpAnyHIn_done (by kernel_rfl) ?_ _
                    obtain ⟨x0, x1, x2, _, _, _⟩ := bx
                    rcases sb with _ | _
                    · by_cases h1 : qN = N0
                      · subst h1
                        by_cases h2 : qE = D0
                        · subst h2
                          go_wp2_with (go_at_call 33; refine (C33.out _ (hg.out.trans hS)).mono ?_; rintro e w7 ⟨rfl, g7⟩; have G7 := Lib.hid ((hS.trans g7).alloc (.cells #[.int .i64 qN, .int .i64 qE] 27)); obtain ⟨e0, e1, _, _⟩ := hb.out.gr G7.out)
                          go_roundw
                          case rel => exact ⟨j + 1, by omega, by go_num, by rw [RX.out, hsb', SMS.out]; simp, Lib.hid (hg.out.trans G7.out), Lib.hid (hb.out.gr G7.out)⟩
                          case measure => simp [intOf]; omega
                        · have hne : (qE == D0) = false := by simpa using h2
                          go_wp2_with (go_at_call 33; refine (C33.out _ (hg.out.trans hS)).mono ?_; rintro e w7 ⟨rfl, g7⟩; have G7 := Lib.hid ((hS.trans g7).alloc (.cells #[.int .i64 qN, .int .i64 qE] 27)); obtain ⟨e0, e1, _, _⟩ := hb.out.gr G7.out)
                          go_roundw
                          case rel => exact ⟨j + 1, by omega, by go_num, by rw [RX.out, hsb', SMS.out]; simp [h2], Lib.hid (hg.out.trans G7.out), Lib.hid (hb.out.gr G7.out)⟩
                          case measure => simp [intOf]; omega
                      · have hne : (qN == N0) = false := by simpa using h1
                        go_wp2_with (go_at_call 33; refine (C33.out _ (hg.out.trans hS)).mono ?_; rintro e w7 ⟨rfl, g7⟩; have G7 := Lib.hid ((hS.trans g7).alloc (.cells #[.int .i64 qN, .int .i64 qE] 27)); obtain ⟨e0, e1, _, _⟩ := hb.out.gr G7.out)
                        go_roundw
                        case rel => exact ⟨j + 1, by omega, by go_num, by rw [RX.out, hsb', SMS.out]; simp [h1], Lib.hid (hg.out.trans G7.out), Lib.hid (hb.out.gr G7.out)⟩
                        case measure => simp [intOf]; omega
                    · skip
                      go_wp2_with (go_at_call 33; refine (C33.out _ (hg.out.trans hS)).mono ?_; rintro e w7 ⟨rfl, g7⟩; have G7 := Lib.hid ((hS.trans g7).alloc (.cells #[.int .i64 qN, .int .i64 qE] 27)); obtain ⟨e0, e1, _, _⟩ := hb.out.gr G7.out)
                      go_roundw
                      case rel => exact ⟨j + 1, by omega, by go_num, by rw [RX.out, hsb', SMS.out]; simp, Lib.hid (hg.out.trans G7.out), Lib.hid (hb.out.gr G7.out)⟩
                      case measure => simp [intOf]; omega
              · have eB : j = i := by omega
                subst eB
                have RW := Lib.hid (show prs X j ++ prow X j j = prs X (j + 1) from rfl)
                rw [RW.out]
                have n1 : ¬ (j : Int) < (j : Int) := by omega
                clear hlj
                go_wp2_with fail
                go_roundw
                case rel => exact ⟨j + 1, by omega, by go_num, rfl, hg, hb⟩
                case measure => simp [intOf]; omega
          · have eA : n = i := by omega
            subst eA
            rw [SE.out]
            have n1 : ¬ (n : Int) < (n : Int) := by omega
            clear hlt
            go_wp2_with (go_at_call 16; refine (Awake_any _).mono ?_; rintro e w7 ⟨rfl, hg11⟩)
            go_ret
            exact ⟨rfl, hg.out.trans hg11⟩

set_option maxRecDepth 100000 in
theorem lifted (os : Os) (started : os.Started) (H : Type) (enc : TypeId × Value → H) :
    ReturnsInHanded {} Try.checked os 8 .any (Rows.trackOnSpec.pre6 enc Try.prog Try.f8 Rows.trackOnRow.domain false) (Rows.trackOnSpec.post enc Try.prog Try.f8 false true false false) := by
  refine returnsInHanded_of_change (C := Try.checked) own started (by kernel_rfl) Try.func8
    (ChangeSpec.witness6 (enc := enc) (C := Try.checked) false ⟨#[], #[.slice none 0 0, .agg #[.int .i64 0, .int .i64 0, .int .i64 0]], []⟩ 8 (by kernel_rfl) (by kernel_rfl) (by kernel_rfl) (by kernel_rfl)) ?_
  intro W base args ds gs before hval0 hW hcnd _
  have hval : ∀ (j : Nat) t v, Try.f8.params[j]? = some t → args[j]? = some v → Value.okWide Try.prog W .any base t v := hval0
  have hW' := hW
  obtain ⟨p, q, hA0, hV, rfl, hfz, hnd⟩ := hW
  have hA : DataW.TrodAll enc Try.prog W 0 (fun _ => true) true Try.f8.params.toList args.toList ds p := hA0
  rw [Try.params8] at hA hval
  obtain ⟨v0, vs0, d0, ds0, p0, q0, hargs, rfl, rfl, h0, r0⟩ := trodAll_cons hA
  obtain ⟨v1, vs1, d1, ds1, p1, q1, rfl, rfl, rfl, h1, r1⟩ := trodAll_cons r0
  obtain ⟨rfl, rfl, rfl⟩ := trodAll_nil r1
  obtain rfl : args = #[v0, v1] := by cases args; simp_all
  obtain ⟨rfl, rfl⟩ := trodVars_none hV
  obtain ⟨a0, len0, cap0, rfl⟩ := okWide_slice Try.underlying22 (hval 0 22 v0 rfl rfl)
  have k0 := h0
  have lt0 : ∀ x ∈ p0, x.block < W.heap.size := by obtain ⟨m, hm⟩ := k0; exact DataW.trod_lt m _ _ _ hm
  obtain ⟨x0, y0, wn0, _, wr0⟩ : ∃ f g : Nat → Int, len0 ≤ 9223372036854775807 ∧ (∀ i, i < len0 → (Lit.int .i64 (f i)).wf = true ∧ (Lit.int .i64 (g i)).wf = true) ∧ RdM W a0 len0 f g := by
    obtain ⟨fuel, hf⟩ := h0
    exact RdM.of_trod Try.underlying22 Try.underlying56 (by kernel_rfl) ⟨rfl, rfl⟩ ⟨rfl, rfl⟩ (by kernel_rfl) Try.underlying3 hf
  have k1 := h1
  have lt1 : ∀ x ∈ p1, x.block < W.heap.size := by obtain ⟨m, hm⟩ := k1; exact DataW.trod_lt m _ _ _ hm
  obtain ⟨x1, y1, z1, rfl, _, _, _⟩ := open_triple Try.underlying37 (by kernel_rfl) (by kernel_rfl) rfl rfl rfl Try.underlying3 (hval 1 37 v1 rfl rfl) h1
  clear hA0 hval0
  refine (walk a0 len0 cap0 x0 y0 x1 y1 z1 W wn0 wr0).mono fun e W' ⟨he, bel⟩ => ?_
  subst he
  exact ⟨_, rfl, _, _, _, [], _, [], hW', trodAll_mk1 (shut_bool Try.underlying4 _), (trodAll_cons_mk (Below.trod laidOut (by kernel_rfl) (of_decide_eq_true (by kernel_rfl)) k0 bel lt0) (trodAll_cons_mk (Below.trod laidOut (by kernel_rfl) (of_decide_eq_true (by kernel_rfl)) k1 bel lt1) trodAll_mk0)), rfl, bel.frame _, fun h => by cases h⟩

theorem over : Rows.trackOnRow.holds Try.pinned (OpenSpec.ofChange Rows.trackOnSpec) :=
  OpenClaim.holds_of_wide 8 Try.f8 rfl rfl rfl rfl rfl rfl rfl ⟨rfl, rfl, rfl, rfl, rfl⟩ rfl rfl rfl rfl rfl (by kernel_rfl) Try.func8 (by kernel_rfl)
    (of_decide_eq_true (by kernel_rfl)) (by unfold Func.isWrapper; first | (rw [if_pos (by decide +kernel)]; kernel_rfl) | (rw [if_neg (by decide +kernel)]; exact ⟨rfl, rfl⟩))
    (fun os started H enc _ => lifted os started H enc)

/-- The statement. -/
theorem proved : Rows.TrackOnSaid := over
end Go.Proofs.Ytbhndfnfohoidaa.trackOn
