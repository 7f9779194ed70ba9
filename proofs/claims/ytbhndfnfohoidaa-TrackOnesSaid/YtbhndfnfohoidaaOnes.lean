/- Proved: TrackOnes returns true at all arguments, which read afterwards as before. Conditions: none. -/
import Derived.Test.YtbhndfnfohoidaaW49
import Derived.Test.YtbhndfnfohoidaaW43
import Derived.Test.YtbhndfnfohoidaaW26
import Derived.Test.YtbhndfnfohoidaaW28
import Derived.Test.YtbhndfnfohoidaaP8
import Derived.ProofKit
import Derived.OpenShut
import Derived.ShutString
import Derived.ChangeOld
import Derived.Below
namespace Go.Proofs.Ytbhndfnfohoidaa.trackOnes
open Go.ChangeShapes Go.WideShapes Go.ChangeAt Go.RowKit Go.Firn
open Go.ChangeMaps (open_string shut_string)

theorem own : ownKnob Try.prog.godebug = none := by kernel_rfl
theorem laidOut : laidOutB Try.prog = true := by kernel_rfl

/-- What the program tells of points on one line. -/
theorem told (L : List (Int × Int)) (A B D : Int) (V : VP L.length (px L) (py L)) (IL : InL A B D) (h : ∀ j, j < L.length → rs (px L j) (py L j) A B D = 0) :
    (∀ w1 a c, RdM w1 a L.length (px L) (py L) → Calls Try.prog 37 #[.slice a L.length c, .agg #[.int .i64 A, .int .i64 B, .int .i64 D]] w1 (fun e w' => ∃ a2 c2, e = .returned (.tuple #[.slice a2 L.length c2, .int .i64 0]) ∧ Gr w1 w')) ∧
    (∀ w1 a c, RdM w1 a L.length (px L) (py L) → Calls Try.prog 19 #[.slice a L.length c] w1 (RetRE 0 1 0 w1)) ∧
    (∀ w1 a c, RdM w1 a L.length (px L) (py L) → Calls Try.prog 21 #[.slice a L.length c] w1 (RetRE 0 1 0 w1)) ∧
    (∀ w1 a c, RdM w1 a L.length (px L) (py L) → Calls Try.prog 50 #[.slice a L.length c] w1 (RetRE (rN A D) (rD A D) 0 w1)) := by
  have n60 : L.length ≤ 1000 := by have := V.few; omega
  have hv := vP_iff.2 V
  have hD : 0 < D := by have := IL.2.2.1; omega
  obtain ⟨q, hq, _⟩ := bst_some V
  obtain ⟨⟨k1, k2⟩, k3, k4⟩ := ones_law V hD h hq
  have km := line_med V hD h
  refine ⟨fun w1 a c rd => ?_, fun w1 a c rd => ?_, fun w1 a c rd => ?_, fun w1 a c rd => ?_⟩
  · have k := On_any a L.length c (px L) (py L) A B D w1 n60 rd
    rw [asE_zero V IL] at k
    have e : onL (onP (px L) (py L) A B D) L.length = List.range L.length := by
      unfold onL
      rw [List.filter_eq_self]
      intro j hj
      rw [List.mem_range] at hj
      unfold onP
      rw [h j hj]
      rfl
    rw [e, List.length_range, show okL 0 L.length = L.length from rfl] at k
    exact k.mono fun e w' ⟨a2, c2, e1, _, _, _, g⟩ => ⟨a2, c2, e1, g⟩
  · have k := Least_any a L.length c (px L) (py L) w1 n60 rd
    have e1 : leN L.length (px L) (py L) = pN L.length (px L) (py L) q := by unfold leN; rw [hv, hq]; rfl
    have e2 : leD L.length (px L) (py L) = pE L.length (px L) (py L) q := by unfold leD; rw [hv, hq]; rfl
    rw [e1, e2, leE_ok V, k1, k2] at k
    exact k
  · have k := Narrowest_any a L.length c (px L) (py L) w1 n60 rd
    unfold naN naD naE at k
    rw [hv] at k
    rw [show (if true = true then (witS (px L) (py L) (wits L.length (px L))).N else 0) = (witS (px L) (py L) (wits L.length (px L))).N from rfl, k3] at k
    rw [show (if true = true then (witS (px L) (py L) (wits L.length (px L))).D else 0) = (witS (px L) (py L) (wits L.length (px L))).D from rfl, k4] at k
    exact k
  · obtain ⟨b, o, e, _⟩ := rd.at (show 0 < L.length by have := V.two; omega)
    subst e
    have k := Slope_any b o L.length c (px L) (py L) V w1 rd
    rw [km] at k
    exact k

set_option maxHeartbeats 4000000 in
set_option maxRecDepth 100000 in
theorem walk (x1 y1 x2 y2 : Int) (a : Option Addr) (n c : Nat) (S : Nat → Int) (w : World) (hn : n ≤ 9223372036854775807) (hr : RdI8 w a n S) (hS8 : ∀ i, i < n → -128 ≤ S i ∧ S i ≤ 127) :
    Calls Try.prog 14 #[.agg #[.int .i64 x1, .int .i64 y1], .agg #[.int .i64 x2, .int .i64 y2], .slice a n c] w (RetB true w) := by
  obtain ⟨W0, hW0⟩ : ∃ W0, (w.alloc (.cells #[.int .i64 x1, .int .i64 y1] 56)).alloc (.cells #[.int .i64 x2, .int .i64 y2] 56) = W0 := ⟨_, rfl⟩
  have G0 := Lib.hid (show Gr w W0 by rw [← hW0]; exact ((Gr.refl w).alloc _).alloc _)
  have BA := Lib.hid (show Box2 W0 w.heap.size x1 y1 by rw [← hW0]; exact (Box2.new rfl).gr ((Gr.refl _).alloc _))
  have BB := Lib.hid (show Box2 W0 (w.heap.size + 1) x2 y2 by rw [← hW0]; exact Box2.new (by simp))
  obtain ⟨a0, a1, _, _⟩ := BA.out
  obtain ⟨b0, b1, _, _⟩ := BB.out
  by_cases h1 : 10 < n
  · have d1 : (10 : Int) < n := by omega
    go_enter Try.func14, Try.ntmps14
    go_wp2_with (go_at_call 16; refine (Awake_any _).mono ?_; rintro e w6 ⟨rfl, hg11⟩)
    go_ret
    exact ⟨rfl, G0.out.trans hg11⟩
  have d1 : ¬ (10 : Int) < n := by omega
  have C45 := Lib.hid (fun w1 => Through_any x1 y1 x2 y2 w1)
  by_cases hE : thE x1 y1 x2 y2 = 0
  case neg =>
    have E : (thE x1 y1 x2 y2 = 50) ∨ (thE x1 y1 x2 y2 = 5 ∧ x1 = x2) := by
      unfold thE at *
      split
      · rename_i hb
        rw [if_pos hb] at hE
        by_cases hx : x1 = x2
        · exact .inr ⟨if_pos hx, hx⟩
        · rw [if_neg hx] at hE; exact absurd rfl hE
      · exact .inl rfl
    rcases E with e | ⟨e, hx⟩
    · rw [e, show ∀ N, okE 50 N = 0 from fun N => rfl] at C45
      rw [show ∀ N, okE 50 N = 0 from fun N => rfl, show ∀ N, okE 50 N = 0 from fun N => rfl] at C45
      clear hE e h1 hn hr hS8
      go_enter Try.func14, Try.ntmps14
      go_wp2_with (first
        | (go_at_call 45; (with_reducible refine (C45.out _).mono ?_); rintro e w1 ⟨rfl, g1⟩; have G1 := Lib.hid (G0.out.trans (g1.alloc (.cells #[.int .i64 0, .int .i64 0, .int .i64 0] 37))); clear g1)
        | (go_at_call 16; refine (Awake_any _).mono ?_; rintro e w6 ⟨rfl, hg11⟩))
      go_ret
      exact ⟨rfl, G1.out.trans hg11⟩
    · rw [e, show ∀ N, okE 5 N = 0 from fun N => rfl] at C45
      rw [show ∀ N, okE 5 N = 0 from fun N => rfl, show ∀ N, okE 5 N = 0 from fun N => rfl] at C45
      have d2 : (x1 == x2) = true := by simpa using hx
      clear hE e hx h1 hn hr hS8
      go_enter Try.func14, Try.ntmps14
      go_wp2_with (first
        | (go_at_call 45; (with_reducible refine (C45.out _).mono ?_); rintro e w1 ⟨rfl, g1⟩; have g1' := g1.alloc (.cells #[.int .i64 0, .int .i64 0, .int .i64 0] 37); have G1 := Lib.hid (G0.out.trans g1'); obtain ⟨a0, a1, _, _⟩ := BA.out.gr g1'; obtain ⟨b0, b1, _, _⟩ := BB.out.gr g1'; clear g1 g1')
        | (go_at_call 16; refine (Awake_any _).mono ?_; rintro e w6 ⟨rfl, hg11⟩))
      go_ret
      exact ⟨rfl, G1.out.trans hg11⟩
  case pos =>
  have H0 : inPB x1 y1 = true ∧ inPB x2 y2 = true ∧ x1 ≠ x2 := by
    unfold thE at hE
    split at hE
    · rename_i hb
      rw [Bool.and_eq_true] at hb
      by_cases hx : x1 = x2
      · rw [if_pos hx] at hE; cases hE
      · exact ⟨hb.1, hb.2, hx⟩
    · cases hE
  obtain ⟨p1, p2, hx⟩ := H0
  rw [hE, show ∀ N, okE 0 N = N from fun N => rfl, show ∀ N, okE 0 N = N from fun N => rfl, show ∀ N, okE 0 N = N from fun N => rfl] at C45
  have OKL := Lib.hid (fun k (hk : k ≤ 10) => ones_ok (S := S) (k := k) p1 p2 hx hk)
  have I1 := inPB_iff.1 p1
  have I2 := inPB_iff.1 p2
  unfold InP at I1 I2
  have HR := Lib.hid hr
  have HS8 := Lib.hid hS8
  clear hE p1 p2 hx hr hS8 h1
  obtain ⟨lA, hA⟩ : ∃ v, thA x1 y1 x2 y2 = v := ⟨_, rfl⟩
  obtain ⟨lB, hB⟩ : ∃ v, thB x1 y1 x2 y2 = v := ⟨_, rfl⟩
  obtain ⟨lD, hD⟩ : ∃ v, thD x1 y1 x2 y2 = v := ⟨_, rfl⟩
  rw [hA, hB, hD] at C45 OKL
  clear hA hB hD
  go_enter Try.func14, Try.ntmps14
  go_wp2_with (go_at_call 45; (with_reducible refine (C45.out _).mono ?_); rintro e w1 ⟨rfl, g1⟩; have g1' := g1.alloc (.cells #[.int .i64 lA, .int .i64 lB, .int .i64 lD] 37); have G1 := Lib.hid (G0.out.trans g1'); have BAx := Lib.hid (BA.out.gr g1'); have BBx := Lib.hid (BB.out.gr g1'); have BL := Lib.hid (show Box3 (w1.alloc (.cells #[.int .i64 lA, .int .i64 lB, .int .i64 lD] 37)) w1.heap.size lA lB lD from Box3.new rfl); obtain ⟨a0, a1, _, _⟩ := BAx.out; obtain ⟨b0, b1, _, _⟩ := BBx.out; clear g1 g1')
  obtain ⟨wq, hwq⟩ : ∃ wq, w1.alloc (.cells #[.int .i64 lA, .int .i64 lB, .int .i64 lD] 37) = wq := ⟨_, rfl⟩
  have hsq : wq.heap.size = w1.heap.size + 1 := by rw [← hwq]; simp
  rw [hwq] at G1 BAx BBx BL
  have OW := Lib.hid (show OwnM wq 56 (wq.alloc (.cells #[.int .i64 x1, .int .i64 y1, .int .i64 x2, .int .i64 y2] 56)) (.slice (some ⟨w1.heap.size + 1, 0, none⟩) 2 2) (ones x1 y1 x2 y2 S 0) from by
    refine ⟨⟨rfl, .inr ⟨w1.heap.size + 1, 2, #[.int .i64 x1, .int .i64 y1, .int .i64 x2, .int .i64 y2], rfl, by omega, ?_, Nat.le_refl _, by unfold maxLen; omega, rfl, rfl⟩⟩, (Gr.refl wq).alloc _⟩
    rw [← hsq]
    exact World.alloc_heap_new wq _)
  clear C45 a0 a1 b0 b1 hW0
  go_loopw [9, 54] (fun so sk wr => ∃ k : Nat, k ≤ n ∧ sk = .int .i64 k ∧ Hid (OwnM wq 56 wr so (ones x1 y1 x2 y2 S k))) (fun _ sk _ => n - (intOf sk).toNat)
  case atStart => exact ⟨0, Nat.zero_le _, rfl, by rw [hwq]; exact OW⟩
  case round =>
    obtain ⟨k, hk, rfl, HO⟩ := hrel
    by_cases hlt : k < n
    · have i1 : (k : Int) < n := by omega
      obtain ⟨b, o, rfl, hc⟩ := (HR.out.gr (G1.out.trans HO.out.2)).at hlt
      have c1 := hc k hlt
      have z8 := HS8.out k hlt
      obtain ⟨a0, a1, _, _⟩ := BAx.out.gr HO.out.2
      obtain ⟨b0, b1, _, _⟩ := BBx.out.gr HO.out.2
      have ES := Lib.hid (show ones x1 y1 x2 y2 S (k + 1) = if inPB (stX x1 x2 (S k)) (stX y1 y2 (S k)) then ones x1 y1 x2 y2 S k ++ [(stX x1 x2 (S k), stX y1 y2 (S k))] else ones x1 y1 x2 y2 S k from rfl)
      have LN : (ones x1 y1 x2 y2 S k).length < 1000000000 := by
        obtain ⟨l, hl, hl2⟩ := ones_head x1 y1 x2 y2 S k
        rw [hl]
        simp only [List.length_cons]
        omega
      have CI := Lib.hid (fun w' => IsPoint_any (stX x1 x2 (S k)) (stX y1 y2 (S k)) w')
      have m1 := mul_bd (a := S k) (b := x2 - x1) (A := 128) (B := 200) (by omega) (by omega) (by omega) (by omega)
      have m2 := mul_bd (a := S k) (b := y2 - y1) (A := 128) (B := 2000) (by omega) (by omega) (by omega) (by omega)
      have e1 : IntKind.i64.wrap (x2 - x1) = x2 - x1 := IntWalk.i64_in _ (by omega)
      have e2 : IntKind.i64.wrap (y2 - y1) = y2 - y1 := IntWalk.i64_in _ (by omega)
      have e3 : IntKind.i64.wrap (S k * (x2 - x1)) = S k * (x2 - x1) := IntWalk.i64_in _ (by omega)
      have e4 : IntKind.i64.wrap (S k * (y2 - y1)) = S k * (y2 - y1) := IntWalk.i64_in _ (by omega)
      have e5 : IntKind.i64.wrap (x1 + S k * (x2 - x1)) = stX x1 x2 (S k) := IntWalk.i64_in _ (by omega)
      have e6 : IntKind.i64.wrap (y1 + S k * (y2 - y1)) = stX y1 y2 (S k) := IntWalk.i64_in _ (by omega)
      have e7 : IntKind.i64.wrap (S k) = S k := IntWalk.i64_in _ (by omega)
      have e8 : wrap64 (S k) = S k := IntWalk.wrap64_in _ (by omega)
      clear hc m1 m2
      generalize stX x1 x2 (S k) = qx at *
      generalize stX y1 y2 (S k) = qy at *
      generalize ones x1 y1 x2 y2 S k = L at *
      generalize S k = z at *
      have GP := Lib.hid ((Gr.refl wr).alloc (.cells #[.int .i64 qx, .int .i64 qy] 56))
      have BP := Lib.hid (show Box2 (wr.alloc (.cells #[.int .i64 qx, .int .i64 qy] 56)) wr.heap.size qx qy from Box2.new rfl)
      cases hib : inPB qx qy with
      | false =>
        rw [hib] at CI
        have ES2 := Lib.hid (show ones x1 y1 x2 y2 S (k + 1) = L by rw [ES.out, hib]; rfl)
        clear hib
        go_wp2_with (go_at_call 56; (with_reducible refine (CI.out _).mono ?_); rintro e w2 ⟨rfl, g2⟩; have O2 := Lib.hid ((HO.out.gr GP.out).gr g2); clear g2)
        go_roundw
        case rel => exact ⟨k + 1, hlt, by go_num, Lib.hid (by rw [ES2.out]; exact O2.out)⟩
        case measure => simp [intOf]; omega
      | true =>
        rw [hib] at CI
        have ES2 := Lib.hid (show ones x1 y1 x2 y2 S (k + 1) = L ++ [(qx, qy)] by rw [ES.out, hib]; rfl)
        clear hib
        go_wp2_with (first
          | (go_at_call 56; (with_reducible refine (CI.out _).mono ?_); rintro e w2 ⟨rfl, g2⟩; have O2 := Lib.hid ((HO.out.gr GP.out).gr g2); obtain ⟨q0, q1, _, _⟩ := BP.out.gr g2; clear g2)
          | (at_builtin; go_must (refine wpList_app_pair rfl _ _ 22 56 rfl Try.underlying22 Try.info56 _ L rfl (O2.out.alloc _) _ _ _ rfl (cell_new2 _ _ _ _) LN ?_); intro v1 w3 hown2 _))
        rw [← ES2.out] at hown2
        go_roundw
        case rel => exact ⟨k + 1, hlt, by go_num, Lib.hid hown2⟩
        case measure => simp [intOf]; omega
    · have ek : k = n := by omega
      have n1 : (n : Int) ≤ (k : Int) := by omega
      obtain ⟨V, IL, d0, HZ⟩ := OKL.out k (by omega)
      obtain ⟨t1, t2, t3, t4⟩ := told _ lA lB lD V IL HZ
      obtain ⟨av, cv, rfl, c2, c3, rd⟩ := HO.out.rd
      have RD := Lib.hid rd
      have GO := Lib.hid (G1.out.trans HO.out.2)
      have BLz := Lib.hid (BL.out.gr HO.out.2)
      have C37 := Lib.hid t1
      have C19 := Lib.hid t2
      have C21 := Lib.hid t3
      have C50 := Lib.hid t4
      have C31 := Lib.hid (show ∀ w', Calls Try.prog 31 #[.agg #[.int .i64 lA, .int .i64 lB, .int .i64 lD]] w' (RetB true w') from fun w' => by
        have h := refValidLine_any lA lB lD w'
        rw [inLB_iff.2 IL] at h
        exact h)
      have rm := red_mul lA lD
      have rp := rD_pos lA d0
      have ra := rN_abs (n := lA) d0
      have rl := rD_le lA d0
      have il := IL.1
      have il3 := IL.2.2
      generalize (ones x1 y1 x2 y2 S k).length = m at *
      generalize rN lA lD = sN at *
      generalize rD lA lD = sD at *
      have m1 := mul_bd (a := sN) (b := lD) (A := 1000000) (B := 10000) (by omega) (by omega) (by omega) (by omega)
      have m2 := mul_bd (a := lA) (b := sD) (A := 1000000) (B := 10000) (by omega) (by omega) (by omega) (by omega)
      obtain ⟨pm, hpm⟩ : ∃ p, lA * sD = p := ⟨_, rfl⟩
      rw [hpm] at m2 rm
      have w1' : IntKind.i64.wrap (sN * lD) = pm := by rw [rm]; exact IntWalk.i64_in _ (by omega)
      have w2' : IntKind.i64.wrap (lA * sD) = pm := by rw [hpm]; exact IntWalk.i64_in _ (by omega)
      have e0 : (0 : Int) < sD := rp
      obtain ⟨l0, l1, l2, _, _, _⟩ := BLz.out
      clear ek hlt V IL HZ t1 t2 t3 t4 rd OKL hpm m1 m2 rm ra rl il il3 rp HO d0
      go_wp2_with (first
        | (go_at_call 37; (with_reducible refine (C37.out _ _ _ RD.out).mono ?_); rintro e w1 ⟨a2, c4, rfl, g1⟩; have G1 := Lib.hid (GO.out.trans g1); have BLz := Lib.hid (BLz.out.gr g1); have RD := Lib.hid (RD.out.gr g1); clear g1)
        | (go_at_call 19; (with_reducible refine (C19.out _ _ _ RD.out).mono ?_); rintro e w2 ⟨rfl, g2⟩; have g2' := g2.alloc (.cells #[.int .i64 0, .int .i64 1] 27); have G2 := Lib.hid (G1.out.trans g2'); have BLz := Lib.hid (BLz.out.gr g2'); have RD := Lib.hid (RD.out.gr g2'); have BC := Lib.hid (show Box2 (w2.alloc (.cells #[.int .i64 0, .int .i64 1] 27)) w2.heap.size 0 1 from Box2.new rfl); clear g2 g2')
        | (go_at_call 21; (with_reducible refine (C21.out _ _ _ RD.out).mono ?_); rintro e w3 ⟨rfl, g3⟩; have g3' := g3.alloc (.cells #[.int .i64 0, .int .i64 1] 27); have G3 := Lib.hid (G2.out.trans g3'); have BLz := Lib.hid (BLz.out.gr g3'); have RD := Lib.hid (RD.out.gr g3'); have BC := Lib.hid (BC.out.gr g3'); have BD := Lib.hid (show Box2 (w3.alloc (.cells #[.int .i64 0, .int .i64 1] 27)) w3.heap.size 0 1 from Box2.new rfl); clear g3 g3')
        | (go_at_call 50; (with_reducible refine (C50.out _ _ _ RD.out).mono ?_); rintro e w4 ⟨rfl, g4⟩; have g4' := (g4.alloc (.cells #[.int .i64 sN, .int .i64 sD] 27)).alloc (.cells #[.int .i64 0, .int .i64 1] 27); have G4 := Lib.hid (G3.out.trans g4'); have BLz := Lib.hid (BLz.out.gr g4'); have RD := Lib.hid (RD.out.gr g4'); have BC := Lib.hid (BC.out.gr g4'); have BD := Lib.hid (BD.out.gr g4'); have BS := Lib.hid (show Box2 ((w4.alloc (.cells #[.int .i64 sN, .int .i64 sD] 27)).alloc (.cells #[.int .i64 0, .int .i64 1] 27)) w4.heap.size sN sD from (Box2.new rfl).gr ((Gr.refl _).alloc _)); have BZ := Lib.hid (show Box2 ((w4.alloc (.cells #[.int .i64 sN, .int .i64 sD] 27)).alloc (.cells #[.int .i64 0, .int .i64 1] 27)) (w4.heap.size + 1) 0 1 from Box2.new (by simp)); obtain ⟨blz0, blz1, blz2, _, _, _⟩ := BLz.out; obtain ⟨bc0, bc1, _, _⟩ := BC.out; obtain ⟨bd0, bd1, _, _⟩ := BD.out; obtain ⟨bs0, bs1, _, _⟩ := BS.out; obtain ⟨bz0, bz1, _, _⟩ := BZ.out; clear g4 g4')
        | (go_at_call 31; (with_reducible refine (C31.out _).mono ?_); rintro e w5 ⟨rfl, g5⟩; have G5 := Lib.hid (G4.out.trans g5); have BLz := Lib.hid (BLz.out.gr g5); have RD := Lib.hid (RD.out.gr g5); have BC := Lib.hid (BC.out.gr g5); have BD := Lib.hid (BD.out.gr g5); have BS := Lib.hid (BS.out.gr g5); have BZ := Lib.hid (BZ.out.gr g5); obtain ⟨blz0, blz1, blz2, _, _, _⟩ := BLz.out; obtain ⟨bc0, bc1, _, _⟩ := BC.out; obtain ⟨bd0, bd1, _, _⟩ := BD.out; obtain ⟨bs0, bs1, _, _⟩ := BS.out; obtain ⟨bz0, bz1, _, _⟩ := BZ.out; clear g5)
        | (go_at_call 16; refine (Awake_any _).mono ?_; rintro e w6 ⟨rfl, hg11⟩))
      go_ret
      exact ⟨rfl, G5.out.trans hg11⟩

set_option maxRecDepth 100000 in
theorem lifted (os : Os) (started : os.Started) (H : Type) (enc : TypeId × Value → H) :
    ReturnsInHanded {} Try.checked os 14 .any (Rows.trackOnesSpec.pre6 enc Try.prog Try.f14 Rows.trackOnesRow.domain false) (Rows.trackOnesSpec.post enc Try.prog Try.f14 false true false false) := by
  refine returnsInHanded_of_change (C := Try.checked) own started (by kernel_rfl) Try.func14
    (ChangeSpec.witness6 (enc := enc) (C := Try.checked) false ⟨#[], #[.agg #[.int .i64 0, .int .i64 0], .agg #[.int .i64 0, .int .i64 0], .slice none 0 0], []⟩ 8 (by kernel_rfl) (by kernel_rfl) (by kernel_rfl) (by kernel_rfl)) ?_
  intro W base args ds gs before hval0 hW hcnd _
  have hval : ∀ (j : Nat) t v, Try.f14.params[j]? = some t → args[j]? = some v → Value.okWide Try.prog W .any base t v := hval0
  have hW' := hW
  obtain ⟨p, q, hA0, hV, rfl, hfz, hnd⟩ := hW
  have hA : DataW.TrodAll enc Try.prog W 0 (fun _ => true) true Try.f14.params.toList args.toList ds p := hA0
  rw [Try.params14] at hA hval
  obtain ⟨v0, vs0, d0, ds0, p0, q0, hargs, rfl, rfl, h0, r0⟩ := trodAll_cons hA
  obtain ⟨v1, vs1, d1, ds1, p1, q1, rfl, rfl, rfl, h1, r1⟩ := trodAll_cons r0
  obtain ⟨v2, vs2, d2, ds2, p2, q2, rfl, rfl, rfl, h2, r2⟩ := trodAll_cons r1
  obtain ⟨rfl, rfl, rfl⟩ := trodAll_nil r2
  obtain rfl : args = #[v0, v1, v2] := by cases args; simp_all
  obtain ⟨rfl, rfl⟩ := trodVars_none hV
  have k0 := h0
  have lt0 : ∀ x ∈ p0, x.block < W.heap.size := by obtain ⟨m, hm⟩ := k0; exact DataW.trod_lt m _ _ _ hm
  obtain ⟨x0, y0, rfl, wx0, wy0⟩ := open_pair Try.underlying56 (by kernel_rfl) (by kernel_rfl) rfl rfl Try.underlying3 (hval 0 56 v0 rfl rfl) h0
  have k1 := h1
  have lt1 : ∀ x ∈ p1, x.block < W.heap.size := by obtain ⟨m, hm⟩ := k1; exact DataW.trod_lt m _ _ _ hm
  obtain ⟨x1, y1, rfl, wx1, wy1⟩ := open_pair Try.underlying56 (by kernel_rfl) (by kernel_rfl) rfl rfl Try.underlying3 (hval 1 56 v1 rfl rfl) h1
  obtain ⟨a2, len2, cap2, rfl⟩ := okWide_slice Try.underlying70 (hval 2 70 v2 rfl rfl)
  have k2 := h2
  have lt2 : ∀ x ∈ p2, x.block < W.heap.size := by obtain ⟨m, hm⟩ := k2; exact DataW.trod_lt m _ _ _ hm
  obtain ⟨z2, w2⟩ : ∃ zs, IsRow8 W a2 len2 cap2 zs := by
    obtain ⟨fuel, hf⟩ := h2
    rcases open_ints Try.underlying70 Try.underlying71 (by kernel_rfl) hf with ⟨hcs, _⟩ | ⟨x, l, c, zs, hcs, _, hl, hm, hz, _, hcell, hwz⟩
    · simp [Value.cells] at hcs
      obtain ⟨rfl, rfl, rfl⟩ := hcs
      exact ⟨[], .inl ⟨rfl, rfl, rfl, rfl⟩⟩
    · simp [Value.cells] at hcs
      obtain ⟨rfl, rfl, rfl⟩ := hcs
      exact ⟨zs, .inr ⟨_, rfl, hl, hm, by simpa using hz, hcell, hwz⟩⟩
  clear hA0 hval0
  refine (walk x0 y0 x1 y1 a2 len2 cap2 _ W w2.rd.1 w2.rd.2.1 w2.rd.2.2).mono fun e W' ⟨he, bel⟩ => ?_
  subst he
  exact ⟨_, rfl, _, _, _, [], _, [], hW', trodAll_mk1 (shut_bool Try.underlying4 _), (trodAll_cons_mk (Below.trod laidOut (by kernel_rfl) (of_decide_eq_true (by kernel_rfl)) k0 bel lt0) (trodAll_cons_mk (Below.trod laidOut (by kernel_rfl) (of_decide_eq_true (by kernel_rfl)) k1 bel lt1) (trodAll_cons_mk (Below.trod laidOut (by kernel_rfl) (of_decide_eq_true (by kernel_rfl)) k2 bel lt2) trodAll_mk0))), rfl, bel.frame _, fun h => by cases h⟩

theorem over : Rows.trackOnesRow.holds Try.pinned (OpenSpec.ofChange Rows.trackOnesSpec) :=
  OpenClaim.holds_of_wide 14 Try.f14 rfl rfl rfl rfl rfl rfl rfl ⟨rfl, rfl, rfl, rfl, rfl⟩ rfl rfl rfl rfl rfl (by kernel_rfl) Try.func14 (by kernel_rfl)
    (of_decide_eq_true (by kernel_rfl)) (by unfold Func.isWrapper; first | (rw [if_pos (by decide +kernel)]; kernel_rfl) | (rw [if_neg (by decide +kernel)]; exact ⟨rfl, rfl⟩))
    (fun os started H enc _ => lifted os started H enc)

/-- The statement. -/
theorem proved : Rows.TrackOnesSaid := over
end Go.Proofs.Ytbhndfnfohoidaa.trackOnes
