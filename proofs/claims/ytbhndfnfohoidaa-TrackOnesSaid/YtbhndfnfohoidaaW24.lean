/- Contracts of chapter 5: the least cost, of the reference. -/
import Derived.Test.YtbhndfnfohoidaaW23
namespace Go.Proofs.Ytbhndfnfohoidaa
open Go.RowKit Go.Firn

theorem prow_succ_if {X : Nat → Int} (A B : Nat) : prow X A (B + 1) = if X B ≠ X A then prow X A B ++ [(B, A)] else prow X A B := by
  rw [prow]
  split
  · rfl
  · rw [List.append_nil]
theorem bN_bd {n : Nat} {X Y : Nat → Int} (hn : n ≤ 12) (ok : ∀ i, i < n → InP (X i) (Y i)) {q b : Nat × Nat} (h : IsPr n X q) (h' : IsPr n X b) : Sz (pN n X Y q * bE n X Y (some b)) ∧ Sz (bN n X Y (some b) * pE n X Y q) := ⟨pr_sz hn ok h h', pr_sz hn ok h' h⟩
theorem pre_pr {n : Nat} {X : Nat → Int} {A B : Nat} (hA : A < n) (hB : B ≤ A) : ∀ q ∈ prs X A ++ prow X A B, IsPr n X q := fun q hq => by
  rcases List.mem_append.1 hq with hq | hq
  · exact prs_pr (Nat.le_of_lt hA) q hq
  · exact prow_pr hA hB q hq

set_option maxHeartbeats 4000000 in
set_option maxRecDepth 100000 in
theorem refLeast_any (a : Option Addr) (n c : Nat) (X Y : Nat → Int) (w : World) (hn : n ≤ 1000) (hc : n ≤ c) (hr : RdM w a n X Y) :
    Calls Try.prog 20 #[.slice a n c] w (RetRE (leN n X Y) (leD n X Y) (leE n X Y) w) := by
  have G0 := Lib.hid ((Gr.refl w).alloc (.cells #[.int .i64 0, .int .i64 0] 27))
  have B0 := Lib.hid (show Box2 (w.alloc (.cells #[.int .i64 0, .int .i64 0] 27)) w.heap.size 0 0 from Box2.new rfl)
  have HA := Lib.hid (refValid_any a n c X Y (w.alloc (.cells #[.int .i64 0, .int .i64 0] 27)) hn (hr.gr G0.out))
  cases hv : vP n X Y with
  | false =>
    have E := Lib.hid (show leN n X Y = 0 ∧ leD n X Y = 0 ∧ leE n X Y = 50 by unfold leN leD leE; rw [hv]; exact ⟨rfl, rfl, rfl⟩)
    rw [hv] at HA
    clear hr hv hn
    rw [E.out.1, E.out.2.1, E.out.2.2]
    clear E
    go_enter Try.func20, Try.ntmps20
    go_wp2_with (go_at_call 29; refine (HA.out).mono ?_; rintro e w1 ⟨rfl, g1⟩; have G1 := Lib.hid (G0.out.trans g1); obtain ⟨p0, p1, p2, p3⟩ := B0.out.gr g1; clear g1)
    refine bodyPost_ret (v := .tuple #[.agg #[.int .i64 0, .int .i64 0], .int .i64 50]) (by simp [results, Try.results20, go_sem, p0, p1]) rfl ⟨rfl, ?_⟩
    repeat (first | exact G1.out | refine Gr.alloc ?_ _ | refine Gr.drewN ?_ _ | refine Gr.drew ?_ | refine Gr.setCell ?_ (by simp) _)
  | true =>
    have V := vP_iff.1 hv
    have E := Lib.hid (show leN n X Y = bN n X Y (bst n X Y (prs X n)) ∧ leD n X Y = bE n X Y (bst n X Y (prs X n)) ∧ leE n X Y = 0 by unfold leN leD leE; rw [hv]; exact ⟨rfl, rfl, rfl⟩)
    rw [hv] at HA
    have n12 := V.few
    have OK := Lib.hid V.ok
    have HR := Lib.hid hr
    clear hr hv hn V
    rw [E.out.1, E.out.2.1, E.out.2.2]
    clear E
    go_enter Try.func20, Try.ntmps20
    go_wp2_with (go_at_call 29; refine (HA.out).mono ?_; rintro e w1 ⟨rfl, g1⟩; have N1 : w.heap.size < w1.heap.size := Gr.freshSize g1; have G1 := Lib.hid ((G0.out.trans g1).alloc (.cells #[.int .i64 0, .int .i64 0] 27)); have B2 := Lib.hid ((B0.out.gr g1).gr ((Gr.refl _).alloc (.cells #[.int .i64 0, .int .i64 0] 27))); have B4 := Lib.hid (show Box2 (w1.alloc (.cells #[.int .i64 0, .int .i64 0] 27)) w1.heap.size 0 0 from Box2.new rfl); clear g1)
    generalize w1.alloc (.cells #[.int .i64 0, .int .i64 0] 27) = w2 at *
    generalize w1.heap.size = b4 at *
    go_loopw [5, 20] (fun s5 s20 wr => ∃ A : Nat, A ≤ n ∧ s20 = .int .i64 A ∧ s5 = .bool (bst n X Y (prs X A)).isSome ∧ Hid (Gr w wr) ∧ Hid (Box2 wr b4 (bN n X Y (bst n X Y (prs X A))) (bE n X Y (bst n X Y (prs X A)))) ∧ Hid (Box2 wr w.heap.size 0 0)) (fun _ s20 _ => n - (intOf s20).toNat)
    case atStart => exact ⟨0, Nat.zero_le _, rfl, rfl, G1, B4, B2⟩
    case round =>
      obtain ⟨A, hA, rfl, rfl, hg, hb4, hb2⟩ := hrel
      by_cases hlt : A < n
      · obtain ⟨b, o, rfl, hcc⟩ := (HR.out.gr hg.out).at hlt
        obtain ⟨c0, c1⟩ := hcc A hlt
        have i1 : (A : Int) < n := by omega
        have i2 : (A : Int) ≤ (c : Int) := by omega
        have lb : b < wr.heap.size := World.block_lt_of_cell? wr _ c0
        have lb4 : b4 < wr.heap.size := World.block_lt_of_cell? wr _ hb4.out.1
        have G7 := Lib.hid (hg.out.alloc (.cells #[.int .i64 (X A), .int .i64 (Y A)] 56))
        have B47 := Lib.hid (hb4.out.gr ((Gr.refl wr).alloc (.cells #[.int .i64 (X A), .int .i64 (Y A)] 56)))
        have B27 := Lib.hid (hb2.out.gr ((Gr.refl wr).alloc (.cells #[.int .i64 (X A), .int .i64 (Y A)] 56)))
        have B7 := Lib.hid (show Box2 (wr.alloc (.cells #[.int .i64 (X A), .int .i64 (Y A)] 56)) wr.heap.size (X A) (Y A) from Box2.new rfl)
        clear hcc hg hb4 hb2
        go_wp2_with fail
        generalize wr.alloc (.cells #[.int .i64 (X A), .int .i64 (Y A)] 56) = w7 at *
        generalize wr.heap.size = b7 at *
        clear c0 c1 lb
        go_loopw [5, 29] (fun s5 s29 wr => ∃ B : Nat, B ≤ A ∧ s29 = .int .i64 B ∧ s5 = .bool (bst n X Y (prs X A ++ prow X A B)).isSome ∧ Hid (Gr w wr) ∧ Hid (Box2 wr b4 (bN n X Y (bst n X Y (prs X A ++ prow X A B))) (bE n X Y (bst n X Y (prs X A ++ prow X A B)))) ∧ Hid (Box2 wr w.heap.size 0 0) ∧ Hid (Box2 wr b7 (X A) (Y A))) (fun _ s29 _ => A - (intOf s29).toNat)
        case atStart =>
          have e0 : prs X A ++ prow X A 0 = prs X A := List.append_nil _
          exact ⟨0, Nat.zero_le _, rfl, by rw [e0], G7, by rw [e0]; exact B47, B27, B7⟩
        case round =>
          obtain ⟨B, hB, rfl, rfl, GY, BY4, BY2, BY7⟩ := hrel
          by_cases hlb : B < A
          · obtain ⟨b', o', e', hcc⟩ := (HR.out.gr GY.out).at hlt
            simp at e'
            obtain ⟨rfl, rfl⟩ := e'
            obtain ⟨c0, c1⟩ := hcc B (by omega)
            have j1 : (B : Int) < A := by omega
            have lb : b < wr.heap.size := World.block_lt_of_cell? wr _ c0
            obtain ⟨x0, x1, _, _⟩ := BY7.out
            have l7 : b7 < wr.heap.size := World.block_lt_of_cell? wr _ x0
            have RW := Lib.hid (show prs X A ++ prow X A (B + 1) = if X B ≠ X A then (prs X A ++ prow X A B) ++ [(B, A)] else prs X A ++ prow X A B by rw [prow_succ_if]; split <;> simp)
            have hpre := pre_pr (n := n) (X := X) hlt (Nat.le_of_lt hlb)
            clear hcc
            by_cases hx : X B = X A
            · have RX := Lib.hid (show prs X A ++ prow X A (B + 1) = prs X A ++ prow X A B by rw [RW.out, if_neg (fun h => h hx)])
              have d1 : (X A == X B) = true := by simp [hx]
              have HZ := Lib.hid ((Gr.refl wr).alloc (.cells #[.int .i64 (X A), .int .i64 (Y B)] 56))
              go_wp2_with fail
              go_roundw
              case rel => exact ⟨B + 1, by omega, by go_num, by rw [RX.out], Lib.hid (GY.out.trans HZ.out), by rw [RX.out]; exact Lib.hid (BY4.out.gr HZ.out), Lib.hid (BY2.out.gr HZ.out), Lib.hid (BY7.out.gr HZ.out)⟩
              case measure => simp [intOf]; omega
            · have d1 : (X A == X B) = false := by simp; omega
              have hq : IsPr n X (B, A) := ⟨hlb, hlt, hx⟩
              have ok := OK.out
              obtain ⟨hl, e1, e2⟩ := pr_in ok hq
              have sb := sumA_bd ok hl (Nat.le_refl n)
              have C1 := Lib.hid (show ∀ w', Calls Try.prog 61 #[.agg #[.int .i64 (X A), .int .i64 (Y A)], .agg #[.int .i64 (X B), .int .i64 (Y B)]] w' (RetL (pA X Y (B, A)) (pB X Y (B, A)) (pD X Y (B, A)) w') from fun w' => by
                have := refthrough_any (X A) (Y A) (X B) (Y B) w' (ok A hlt) (ok B (by omega)) (Ne.symm hx)
                rw [(th_swap hx).1, (th_swap hx).2.1, (th_swap hx).2.2] at this
                exact this)
              have C2 := Lib.hid (show ∀ w1, Gr w w1 → Calls Try.prog 62 #[.slice (some ⟨b, o, none⟩) n c, .agg #[.int .i64 (pA X Y (B, A)), .int .i64 (pB X Y (B, A)), .int .i64 (pD X Y (B, A))]] w1 (fun e w' => e = .returned (.tuple #[.int .i64 (pS n X Y (B, A)), .int .i64 (maxA X Y (pA X Y (B, A)) (pB X Y (B, A)) (pD X Y (B, A)) n)]) ∧ Gr w1 w') from fun w1 g => sums_any _ n c X Y _ _ _ w1 n12 (HR.out.gr g) ok hl)
              have C3 := Lib.hid (show ∀ w', Calls Try.prog 44 #[.int .i64 (pS n X Y (B, A)), .int .i64 (pD X Y (B, A))] w' (RetR (pN n X Y (B, A)) (pE n X Y (B, A)) w') from fun w' => Ratio_any _ _ w' (by unfold Sz pS; omega) (by unfold Sz; omega) (by omega))
              have RX := Lib.hid (show prs X A ++ prow X A (B + 1) = (prs X A ++ prow X A B) ++ [(B, A)] by rw [RW.out, if_pos hx])
              have SN := Lib.hid (bst_snoc n X Y (prs X A ++ prow X A B) (B, A))
              have SB := Lib.hid (fun b' (h : bst n X Y (prs X A ++ prow X A B) = some b') => bN_bd n12 ok hq (hpre b' (bst_mem h)))
              clear hq ok hl e1 e2 sb hpre
              generalize maxA X Y (pA X Y (B, A)) (pB X Y (B, A)) (pD X Y (B, A)) n = qM at *
              obtain ⟨s, hs⟩ : ∃ s, bst n X Y (prs X A ++ prow X A B) = s := ⟨_, rfl⟩
              cases s with
              | none =>
                have ST := Lib.hid (show bst n X Y (prs X A ++ prow X A B ++ [(B, A)]) = some (B, A) by rw [SN.out, hs]; rfl)
                have V1 := Lib.hid (show pN n X Y (B, A) = bN n X Y (some (B, A)) ∧ pE n X Y (B, A) = bE n X Y (some (B, A)) from ⟨rfl, rfl⟩)
                rw [hs] at BY4 ⊢
                simp only [Option.isSome] at *
                obtain ⟨v1, v2⟩ := V1.out
                generalize hk1 : bN n X Y (some (B, A)) = qN at *
                generalize hk2 : bE n X Y (some (B, A)) = qE at *
                rw [v1, v2] at C3
                clear SB SN V1 v1 v2 hs
                generalize X B = xB at *
                generalize Y B = yB at *
                generalize pA X Y (B, A) = qA at *
                generalize pB X Y (B, A) = qB at *
                generalize pD X Y (B, A) = qD at *
                generalize pS n X Y (B, A) = qS at *
                go_wp2_with (first
                | (go_at_call 61; refine (C1.out _).mono ?_; rintro e w1 ⟨rfl, g1⟩; have H1 := Lib.hid ((((Gr.refl wr).alloc (.cells #[.int .i64 xB, .int .i64 yB] 56)).trans g1).alloc (.cells #[.int .i64 qA, .int .i64 qB, .int .i64 qD] 37)); have B10 := Lib.hid (show Box3 (w1.alloc (.cells #[.int .i64 qA, .int .i64 qB, .int .i64 qD] 37)) w1.heap.size qA qB qD from Box3.new rfl); clear g1)
                | (go_at_call 62; refine (C2.out _ (GY.out.trans H1.out)).mono ?_; rintro e w2 ⟨rfl, g2⟩; have H2 := Lib.hid (H1.out.trans g2); have k10 := B10.out.gr g2; have z2 := k10.2.2.1; clear g2 k10)
                | (go_at_call 44; refine (C3.out _).mono ?_; rintro e w3 ⟨rfl, g3⟩; have H3 := Lib.hid ((H2.out.trans g3).alloc (.cells #[.int .i64 qN, .int .i64 qE] 27)); have B13 := Lib.hid (show Box2 (w3.alloc (.cells #[.int .i64 qN, .int .i64 qE] 27)) w3.heap.size qN qE from Box2.new rfl); obtain ⟨p0, p1, p2, p3⟩ := BY4.out.gr H3.out; clear g3))
                go_roundw
                case rel => subst hk1 hk2; exact ⟨B + 1, by omega, by go_num, by rw [RX.out, ST.out], Lib.hid (((GY.out.trans H3.out).setAt (by omega) _).setAt (by omega) _), Lib.hid (by rw [RX.out, ST.out]; exact Box2.put (BY4.out.gr H3.out)), Lib.hid ((BY2.out.gr H3.out).far (by omega) _ _), Lib.hid ((BY7.out.gr H3.out).far (by omega) _ _)⟩
                case measure => simp [intOf]; omega
              | some q0 =>
                have C4 := Lib.hid (fun w' => refLess_any (pN n X Y (B, A)) (pE n X Y (B, A)) (bN n X Y (some q0)) (bE n X Y (some q0)) w' (SB.out q0 hs).1 (SB.out q0 hs).2)
                have ST := Lib.hid (show bst n X Y (prs X A ++ prow X A B ++ [(B, A)]) = if pN n X Y (B, A) * bE n X Y (some q0) < bN n X Y (some q0) * pE n X Y (B, A) then some (B, A) else some q0 by rw [SN.out, hs]; rfl)
                have V1 := Lib.hid (show pN n X Y (B, A) = bN n X Y (some (B, A)) ∧ pE n X Y (B, A) = bE n X Y (some (B, A)) from ⟨rfl, rfl⟩)
                rw [hs] at BY4 ⊢
                simp only [Option.isSome] at *
                rw [V1.out.1, V1.out.2] at C3 C4 ST
                clear SB SN V1 hs
                generalize X B = xB at *
                generalize Y B = yB at *
                generalize pA X Y (B, A) = qA at *
                generalize pB X Y (B, A) = qB at *
                generalize pD X Y (B, A) = qD at *
                generalize pS n X Y (B, A) = qS at *
                generalize hk1 : bN n X Y (some (B, A)) = qN at *
                generalize hk2 : bE n X Y (some (B, A)) = qE at *
                generalize hk3 : bN n X Y (some q0) = mN at *
                generalize hk4 : bE n X Y (some q0) = mE at *
                by_cases hls : qN * mE < mN * qE
                · have SU := Lib.hid (ST.out.trans (if_pos hls))
                  have LT : decide (qN * mE < mN * qE) = true := by simpa using hls
                  clear hls
                  go_wp2_with (first
                | (go_at_call 61; refine (C1.out _).mono ?_; rintro e w1 ⟨rfl, g1⟩; have H1 := Lib.hid ((((Gr.refl wr).alloc (.cells #[.int .i64 xB, .int .i64 yB] 56)).trans g1).alloc (.cells #[.int .i64 qA, .int .i64 qB, .int .i64 qD] 37)); have B10 := Lib.hid (show Box3 (w1.alloc (.cells #[.int .i64 qA, .int .i64 qB, .int .i64 qD] 37)) w1.heap.size qA qB qD from Box3.new rfl); clear g1)
                | (go_at_call 62; refine (C2.out _ (GY.out.trans H1.out)).mono ?_; rintro e w2 ⟨rfl, g2⟩; have H2 := Lib.hid (H1.out.trans g2); have k10 := B10.out.gr g2; have z2 := k10.2.2.1; clear g2 k10)
                | (go_at_call 44; refine (C3.out _).mono ?_; rintro e w3 ⟨rfl, g3⟩; have H3 := Lib.hid ((H2.out.trans g3).alloc (.cells #[.int .i64 qN, .int .i64 qE] 27)); have B13 := Lib.hid (show Box2 (w3.alloc (.cells #[.int .i64 qN, .int .i64 qE] 27)) w3.heap.size qN qE from Box2.new rfl); obtain ⟨p0, p1, p2, p3⟩ := BY4.out.gr H3.out; clear g3)
                | (go_at_call 46; refine (C4.out _).mono ?_; rintro e w4 ⟨rfl, g4⟩; rw [LT]; have H4 := Lib.hid (H3.out.trans g4); obtain ⟨r0, r1, r2, r3⟩ := B13.out.gr g4; obtain ⟨s0, s1, s2, s3⟩ := BY4.out.gr H4.out; clear g4))
                  go_roundw
                  case rel => subst hk1 hk2; exact ⟨B + 1, by omega, by go_num, by rw [RX.out, SU.out], Lib.hid (((GY.out.trans H4.out).setAt (by omega) _).setAt (by omega) _), Lib.hid (by rw [RX.out, SU.out]; exact Box2.put (BY4.out.gr H4.out)), Lib.hid ((BY2.out.gr H4.out).far (by omega) _ _), Lib.hid ((BY7.out.gr H4.out).far (by omega) _ _)⟩
                  case measure => simp [intOf]; omega
                · have SU := Lib.hid (ST.out.trans (if_neg hls))
                  have LT : decide (qN * mE < mN * qE) = false := by simpa using hls
                  clear hls
                  go_wp2_with (first
                | (go_at_call 61; refine (C1.out _).mono ?_; rintro e w1 ⟨rfl, g1⟩; have H1 := Lib.hid ((((Gr.refl wr).alloc (.cells #[.int .i64 xB, .int .i64 yB] 56)).trans g1).alloc (.cells #[.int .i64 qA, .int .i64 qB, .int .i64 qD] 37)); have B10 := Lib.hid (show Box3 (w1.alloc (.cells #[.int .i64 qA, .int .i64 qB, .int .i64 qD] 37)) w1.heap.size qA qB qD from Box3.new rfl); clear g1)
                | (go_at_call 62; refine (C2.out _ (GY.out.trans H1.out)).mono ?_; rintro e w2 ⟨rfl, g2⟩; have H2 := Lib.hid (H1.out.trans g2); have k10 := B10.out.gr g2; have z2 := k10.2.2.1; clear g2 k10)
                | (go_at_call 44; refine (C3.out _).mono ?_; rintro e w3 ⟨rfl, g3⟩; have H3 := Lib.hid ((H2.out.trans g3).alloc (.cells #[.int .i64 qN, .int .i64 qE] 27)); have B13 := Lib.hid (show Box2 (w3.alloc (.cells #[.int .i64 qN, .int .i64 qE] 27)) w3.heap.size qN qE from Box2.new rfl); obtain ⟨p0, p1, p2, p3⟩ := BY4.out.gr H3.out; clear g3)
                | (go_at_call 46; refine (C4.out _).mono ?_; rintro e w4 ⟨rfl, g4⟩; rw [LT]; have H4 := Lib.hid (H3.out.trans g4); obtain ⟨r0, r1, r2, r3⟩ := B13.out.gr g4; obtain ⟨s0, s1, s2, s3⟩ := BY4.out.gr H4.out; clear g4))
                  go_roundw
                  case rel => subst hk3 hk4; exact ⟨B + 1, by omega, by go_num, by rw [RX.out, SU.out], Lib.hid (GY.out.trans H4.out), Lib.hid (by rw [RX.out, SU.out]; exact BY4.out.gr H4.out), Lib.hid (BY2.out.gr H4.out), Lib.hid (BY7.out.gr H4.out)⟩
                  case measure => simp [intOf]; omega
          · have eB : B = A := by omega
            subst eB
            have RW := Lib.hid (show prs X B ++ prow X B B = prs X (B + 1) from rfl)
            rw [RW.out] at *
            have n1 : ¬ (B : Int) < (B : Int) := by omega
            clear hlb
            go_wp2_with fail
            go_roundw
            case rel => exact ⟨B + 1, by omega, by go_num, rfl, GY, BY4, BY2⟩
            case measure => simp [intOf]; omega
      · have eA : A = n := by omega
        subst eA
        obtain ⟨p0, p1, p2, p3⟩ := hb4.out
        obtain ⟨q0, q1, q2, q3⟩ := hb2.out
        have n1 : ¬ (A : Int) < (A : Int) := by omega
        clear hlt
        generalize bN A X Y (bst A X Y (prs X A)) = N at *
        generalize bE A X Y (bst A X Y (prs X A)) = D at *
        go_wp2_with fail
        obtain ⟨z0, z1, _, _⟩ := (show Box2 wr w.heap.size 0 0 from ⟨q0, q1, q2, q3⟩).put (x' := N) (y' := D)
        refine bodyPost_ret (v := .tuple #[.agg #[.int .i64 N, .int .i64 D], .int .i64 0]) (by simp [results, Try.results20, go_sem, z0, z1]) rfl ⟨rfl, ?_⟩
        repeat (first | exact hg.out | refine Gr.alloc ?_ _ | refine Gr.drewN ?_ _ | refine Gr.drew ?_ | refine Gr.setCell ?_ (by simp) _)

end Go.Proofs.Ytbhndfnfohoidaa
