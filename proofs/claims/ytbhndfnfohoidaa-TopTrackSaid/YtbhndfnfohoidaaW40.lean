/- Contracts of chapter 5: the least cost and the least width with their proofs (of the law through the layers). -/
import Derived.Test.YtbhndfnfohoidaaW38
import Derived.Test.YtbhndfnfohoidaaW32
import Derived.Test.YtbhndfnfohoidaaPH
import Derived.Test.YtbhndfnfohoidaaW24
import Derived.Test.YtbhndfnfohoidaaP8
namespace Go.Proofs.Ytbhndfnfohoidaa
open Go.RowKit Go.Firn
attribute [local simp] wide_fn

/-- What stands behind the results' cells while they are stored anew. -/
def Kept (w : World) (b2 b3 b19 : Nat) (cN cD uN uD : Int) (W : World) : Prop := Box2 W b2 cN cD ∧ Box2 W b3 uN uD ∧ Box2 W b19 uN uD ∧ Gr w W
theorem Kept.put2 {w W : World} {b2 b3 b19 : Nat} {cN cD uN uD : Int} (h : Kept w b2 b3 b19 cN cD uN uD W) (h1 : b2 ≠ b3) (h2 : b2 ≠ b19) (hb : w.heap.size ≤ b2) : Kept w b2 b3 b19 cN cD uN uD ((W.setCell ⟨b2, 0, none⟩ (.int .i64 cN)).setCell ⟨b2, 1, none⟩ (.int .i64 cD)) :=
  ⟨h.1.put, h.2.1.far h1 _ _, h.2.2.1.far h2 _ _, (h.2.2.2.setCell (p := ⟨b2, 0, none⟩) hb _).setCell (p := ⟨b2, 1, none⟩) hb _⟩
theorem Kept.put3 {w W : World} {b2 b3 b19 : Nat} {cN cD uN uD : Int} (h : Kept w b2 b3 b19 cN cD uN uD W) (h1 : b3 ≠ b2) (h2 : b3 ≠ b19) (hb : w.heap.size ≤ b3) : Kept w b2 b3 b19 cN cD uN uD ((W.setCell ⟨b3, 0, none⟩ (.int .i64 uN)).setCell ⟨b3, 1, none⟩ (.int .i64 uD)) :=
  ⟨h.1.far h1 _ _, h.2.1.put, h.2.2.1.far h2 _ _, (h.2.2.2.setCell (p := ⟨b3, 0, none⟩) hb _).setCell (p := ⟨b3, 1, none⟩) hb _⟩
theorem Kept.drew {w W : World} {b2 b3 b19 : Nat} {cN cD uN uD : Int} (h : Kept w b2 b3 b19 cN cD uN uD W) : Kept w b2 b3 b19 cN cD uN uD W.drew := ⟨h.1, h.2.1, h.2.2.1, h.2.2.2.drew⟩

set_option maxHeartbeats 4000000 in
set_option maxRecDepth 100000 in
theorem proved_any (a : Option Addr) (n c : Nat) (X Y : Nat → Int) (V : VP n X Y) (q : Nat × Nat) (hq : bst n X Y (prs X n) = some q) (w : World) (hr : RdM w a n X Y) :
    Calls Try.prog 47 #[.slice a n c] w (fun e w' => e = .returned (.tuple #[.agg #[.int .i64 (pN n X Y q), .int .i64 (pE n X Y q)], .agg #[.int .i64 (witS X Y (wits n X)).N, .int .i64 (witS X Y (wits n X)).D], .bool true]) ∧ Gr w w') := by
  have n12 := V.few
  have n60 : n ≤ 1000 := by omega
  have hv := vP_iff.2 V
  have hp := prs_pr (X := X) (Nat.le_refl n) q (bst_mem hq)
  obtain ⟨⟨x1, x2⟩, hx⟩ := axis_ok V
  have C19 := Lib.hid (show ∀ w1, Gr w w1 → Calls Try.prog 19 #[.slice a n c] w1 (RetRE (pN n X Y q) (pE n X Y q) 0 w1) from fun w1 g => by
    have h := Least_any a n c X Y w1 n60 (hr.gr g)
    have e1 : leN n X Y = pN n X Y q := by unfold leN; rw [hv, hq]; rfl
    have e2 : leD n X Y = pE n X Y q := by unfold leD; rw [hv, hq]; rfl
    rw [e1, e2, leE_ok V] at h
    exact h)
  have C21 := Lib.hid (show ∀ w1, Gr w w1 → Calls Try.prog 21 #[.slice a n c] w1 (RetRE (witS X Y (wits n X)).N (witS X Y (wits n X)).D 0 w1) from fun w1 g => by
    have h := Narrowest_any a n c X Y w1 n60 (hr.gr g)
    unfold naN naD naE at h
    rw [hv] at h
    exact h)
  have C39 := Lib.hid (show ∀ w1, Gr w w1 → Calls Try.prog 39 #[.slice a n c] w1 (RetLE (pA X Y q) (pB X Y q) (pD X Y q) 0 w1) from fun w1 g => by
    have h := Line_any a n c X Y w1 n60 (hr.gr g)
    rw [leE_ok V, hq] at h
    exact h)
  have C40 := Lib.hid (show ∀ w1, Gr w w1 → Calls Try.prog 40 #[.slice a n c] w1 (RetLE (axL n X Y (witS X Y (wits n X)).l).A (axL n X Y (witS X Y (wits n X)).l).B (axL n X Y (witS X Y (wits n X)).l).D 0 w1) from fun w1 g => by
    have h := Axis_any a n c X Y w1 n60 (hr.gr g)
    rw [leE_ok V] at h
    exact h)
  have C43 := Lib.hid (fun w1 (g : Gr w w1) => Weights_any a n c X Y V q hq w1 (hr.gr g))
  have C23 := Lib.hid (fun w1 (g : Gr w w1) => Witness_any a n c X Y w1 n60 (hr.gr g))
  have C34 := Lib.hid (show ∀ w1, Gr w w1 → Calls Try.prog 34 #[.slice a n c, .agg #[.int .i64 (pA X Y q), .int .i64 (pB X Y q), .int .i64 (pD X Y q)]] w1 (RetRE (pN n X Y q) (pE n X Y q) 0 w1) from fun w1 g => by
    have h := refCost_any a n c X Y (pA X Y q) (pB X Y q) (pD X Y q) w1 n60 (hr.gr g)
    rw [asE_pair V hp] at h
    exact h)
  have C36 := Lib.hid (show ∀ w1, Gr w w1 → Calls Try.prog 36 #[.slice a n c, .agg #[.int .i64 (axL n X Y (witS X Y (wits n X)).l).A, .int .i64 (axL n X Y (witS X Y (wits n X)).l).B, .int .i64 (axL n X Y (witS X Y (wits n X)).l).D]] w1 (RetRE (witS X Y (wits n X)).N (witS X Y (wits n X)).D 0 w1) from fun w1 g => by
    have h := refWidth_any a n c X Y (axL n X Y (witS X Y (wits n X)).l).A (axL n X Y (witS X Y (wits n X)).l).B (axL n X Y (witS X Y (wits n X)).l).D w1 n60 (hr.gr g)
    rw [asE_zero V hx, x1, x2] at h
    exact h)
  have C42 := Lib.hid (show ∀ w1, Gr w w1 → ∀ bw cw m' W', Good n X (fun j => rs (X j) (Y j) (pA X Y q) (pB X Y q) (pD X Y q)) W' m' → RdI w1 (some ⟨bw, 0, none⟩) n W' →
      Calls Try.prog 42 #[.slice a n c, .slice (some ⟨bw, 0, none⟩) n cw, .int .i64 m', .agg #[.int .i64 (pN n X Y q), .int .i64 (pE n X Y q)]] w1 (fun e w' => e = .returned (.tuple #[.bool true, .int .i64 0]) ∧ Gr w1 w') from fun w1 g bw cw m' W' gd rd => by
    have h := refProves_any a n c X Y (some ⟨bw, 0, none⟩) n cw W' m' (pN n X Y q) (pE n X Y q) w1 n60 n60 (hr.gr g) rd
    obtain ⟨p1, p2⟩ := good_proves V hq gd
    rw [p1, p2] at h
    exact h)
  have C18 := Lib.hid (fun (hne : n ≠ 2) w1 (g : Gr w w1) a3 c3 (h3 : (wiL n X Y).length ≤ c3) (h : RdI w1 a3 (wiL n X Y).length (nf (wiL n X Y))) => show Calls Try.prog 18 #[.slice a n c, .slice a3 (wiL n X Y).length c3] w1 (RetRE (witS X Y (wits n X)).N (witS X Y (wits n X)).D 0 w1) by
    obtain ⟨_, t1, t2, t3, t4⟩ := wi_more V hne
    have k := refTells_any a n c X Y a3 (wiL n X Y).length c3 (nf (wiL n X Y)) w1 n60 (by omega) h3 (hr.gr g) h
    rw [t1, t2, t3] at k
    exact k)
  have N2 : (n = 2 ∧ wiE n X Y = 5 ∧ (witS X Y (wits n X)).N = 0 ∧ pN n X Y q = 0) ∨ (n ≠ 2 ∧ wiE n X Y = 0) := by
    by_cases h : n = 2
    · obtain ⟨t1, t2⟩ := wi_two V h
      exact .inl ⟨h, t1, t2, cost_two V hq h⟩
    · exact .inr ⟨h, (wi_more V h).1⟩
  have n2 := V.two
  obtain ⟨W0, hW0⟩ : ∃ W0, (w.alloc (.cells #[.int .i64 0, .int .i64 0] 27)).alloc (.cells #[.int .i64 0, .int .i64 0] 27) = W0 := ⟨_, rfl⟩
  have S0 : w.heap.size + 2 = W0.heap.size := by rw [← hW0]; simp
  have G0 := Lib.hid (show Gr w W0 by rw [← hW0]; exact ((Gr.refl w).alloc _).alloc _)
  have B2 := Lib.hid (show Box2 W0 w.heap.size 0 0 by rw [← hW0]; exact (Box2.new rfl).gr ((Gr.refl _).alloc _))
  have B3 := Lib.hid (show Box2 W0 (w.heap.size + 1) 0 0 by rw [← hW0]; exact Box2.new (by simp))
  have M1 : w.heap.size ≠ w.heap.size + 1 := by omega
  have M2 : w.heap.size + 1 ≠ w.heap.size := by omega
  have M3 : w.heap.size ≤ w.heap.size + 1 := by omega
  clear V hq hr hv hp x1 x2 hx
  generalize (fun j => rs (X j) (Y j) (pA X Y q) (pB X Y q) (pD X Y q)) = r0 at *
  generalize wiE n X Y = oe at *
  generalize nf (wiL n X Y) = of at *
  generalize (wiL n X Y).length = ol at *
  generalize pN n X Y q = cN at *
  generalize pE n X Y q = cD at *
  generalize pA X Y q = lA at *
  generalize pB X Y q = lB at *
  generalize pD X Y q = lD at *
  generalize (axL n X Y (witS X Y (wits n X)).l).A = xA at *
  generalize (axL n X Y (witS X Y (wits n X)).l).B = xB at *
  generalize (axL n X Y (witS X Y (wits n X)).l).D = xD at *
  generalize (witS X Y (wits n X)).N = uN at *
  generalize (witS X Y (wits n X)).D = uD at *
  rcases N2 with ⟨hn2, rfl, hu0, hc0⟩ | ⟨hne, rfl⟩
  · clear C18
    have U0 := Lib.hid hu0
    have K0 := Lib.hid hc0
    have d2 : ((n : Int) == 2) = true := by rw [hn2]; rfl
    have d3 : ¬ (2 : Int) < (n : Int) := by omega
    have d4 : ¬ 2 < n := by omega
    clear hu0 hc0 hn2
    go_enter Try.func47, Try.ntmps47
    go_wp2_with (first
      | (go_at_call 19; (with_reducible refine (C19.out _ G0.out).mono ?_); rintro e w1 ⟨rfl, g1⟩; obtain ⟨p0, p1, p2, p3⟩ := B2.out.gr g1; have G1 := Lib.hid (((G0.out.trans g1).setCell (p := ⟨w.heap.size, 0, none⟩) (Nat.le_refl _) (.int .i64 cN)).setCell (p := ⟨w.heap.size, 1, none⟩) (Nat.le_refl _) (.int .i64 cD)); have B2a := Lib.hid ((B2.out.gr g1).put (x' := cN) (y' := cD)); have B3a := Lib.hid ((B3.out.gr g1).far M1 (.int .i64 cN) (.int .i64 cD)); clear g1)
      | (go_at_call 21; (with_reducible refine (C21.out _ G1.out).mono ?_); rintro e w2 ⟨rfl, g2⟩; obtain ⟨p0, p1, p2, p3⟩ := B3a.out.gr g2; have G2 := Lib.hid (((G1.out.trans g2).setCell (p := ⟨w.heap.size + 1, 0, none⟩) M3 (.int .i64 uN)).setCell (p := ⟨w.heap.size + 1, 1, none⟩) M3 (.int .i64 uD)); have B2b := Lib.hid ((B2a.out.gr g2).far M2 (.int .i64 uN) (.int .i64 uD)); have B3b := Lib.hid ((B3a.out.gr g2).put (x' := uN) (y' := uD)); clear g2)
      | (go_at_call 39; (with_reducible refine (C39.out _ G2.out).mono ?_); rintro e w3 ⟨rfl, g3⟩; have g3' := g3.alloc (.cells #[.int .i64 lA, .int .i64 lB, .int .i64 lD] 37); have G3 := Lib.hid (G2.out.trans g3'); have B2b := Lib.hid (B2b.out.gr g3'); have B3b := Lib.hid (B3b.out.gr g3'); have BM := Lib.hid (show Box3 (w3.alloc (.cells #[.int .i64 lA, .int .i64 lB, .int .i64 lD] 37)) w3.heap.size lA lB lD from Box3.new rfl); clear g3 g3')
      | (go_at_call 40; (with_reducible refine (C40.out _ G3.out).mono ?_); rintro e w4 ⟨rfl, g4⟩; have g4' := g4.alloc (.cells #[.int .i64 xA, .int .i64 xB, .int .i64 xD] 37); have G4 := Lib.hid (G3.out.trans g4'); have B2b := Lib.hid (B2b.out.gr g4'); have B3b := Lib.hid (B3b.out.gr g4'); have BM := Lib.hid (BM.out.gr g4'); have BX := Lib.hid (show Box3 (w4.alloc (.cells #[.int .i64 xA, .int .i64 xB, .int .i64 xD] 37)) w4.heap.size xA xB xD from Box3.new rfl); clear g4 g4')
      | (go_at_call 43; (with_reducible refine (C43.out _ G4.out).mono ?_); rintro e w5 ⟨bw, cw, m', W', rfl, c1, c2', gd, rd, g5⟩; have GD := Lib.hid gd; have RD := Lib.hid rd; clear gd rd; have G5 := Lib.hid (G4.out.trans g5); have B2b := Lib.hid (B2b.out.gr g5); have B3b := Lib.hid (B3b.out.gr g5); have BM := Lib.hid (BM.out.gr g5); have BX := Lib.hid (BX.out.gr g5); clear g5)
      | (go_at_call 23; (with_reducible refine (C23.out _ G5.out).mono ?_); rintro e w6 ⟨a3, c3, rfl, c4, c5, rl, g6⟩; have RL := Lib.hid rl; clear rl; have G6 := Lib.hid (G5.out.trans g6); have B2b := Lib.hid (B2b.out.gr g6); have B3b := Lib.hid (B3b.out.gr g6); have BM := Lib.hid (BM.out.gr g6); have BX := Lib.hid (BX.out.gr g6); have RD := Lib.hid (RD.out.gr g6); obtain ⟨bm0, bm1, bm2, _, _, _⟩ := BM.out; clear g6)
      | (go_at_call 34; (with_reducible refine (C34.out _ G6.out).mono ?_); rintro e w7 ⟨rfl, g7⟩; have g7' := g7.alloc (.cells #[.int .i64 cN, .int .i64 cD] 27); have G7 := Lib.hid (G6.out.trans g7'); have B2b := Lib.hid (B2b.out.gr g7'); have B3b := Lib.hid (B3b.out.gr g7'); have BM := Lib.hid (BM.out.gr g7'); have BX := Lib.hid (BX.out.gr g7'); have RD := Lib.hid (RD.out.gr g7'); have RL := Lib.hid (RL.out.gr g7'); have BP := Lib.hid (show Box2 (w7.alloc (.cells #[.int .i64 cN, .int .i64 cD] 27)) w7.heap.size cN cD from Box2.new rfl); obtain ⟨bx0, bx1, bx2, _, _, _⟩ := BX.out; clear g7 g7')
      | (go_at_call 36; (with_reducible refine (C36.out _ G7.out).mono ?_); rintro e w8 ⟨rfl, g8⟩; have L8 := World.block_lt_of_cell? w8 _ (B3b.out.gr g8).1; simp only at L8; have g8' := g8.alloc (.cells #[.int .i64 uN, .int .i64 uD] 27); have G8 := Lib.hid (G7.out.trans g8'); have B2b := Lib.hid (B2b.out.gr g8'); have B3b := Lib.hid (B3b.out.gr g8'); have BM := Lib.hid (BM.out.gr g8'); have BX := Lib.hid (BX.out.gr g8'); have RD := Lib.hid (RD.out.gr g8'); have RL := Lib.hid (RL.out.gr g8'); have BP := Lib.hid (BP.out.gr g8'); have BQ := Lib.hid (show Box2 (w8.alloc (.cells #[.int .i64 uN, .int .i64 uD] 27)) w8.heap.size uN uD from Box2.new rfl); obtain ⟨b2b0, b2b1, _, _⟩ := B2b.out; clear g8 g8')
      | (go_at_call 42; (with_reducible refine (C42.out _ G8.out bw cw m' W' GD.out RD.out).mono ?_); rintro e w9 ⟨rfl, g9⟩; have G9 := Lib.hid (G8.out.trans g9); have B2b := Lib.hid (B2b.out.gr g9); have B3b := Lib.hid (B3b.out.gr g9); have BM := Lib.hid (BM.out.gr g9); have BX := Lib.hid (BX.out.gr g9); have RD := Lib.hid (RD.out.gr g9); have RL := Lib.hid (RL.out.gr g9); have BP := Lib.hid (BP.out.gr g9); have BQ := Lib.hid (BQ.out.gr g9); obtain ⟨b2b0, b2b1, _, _⟩ := B2b.out; obtain ⟨b3b0, b3b1, _, _⟩ := B3b.out; obtain ⟨bp0, bp1, _, _⟩ := BP.out; obtain ⟨bq0, bq1, _, _⟩ := BQ.out; clear g9))
    have KS := Lib.hid (show Kept w w.heap.size (w.heap.size + 1) w8.heap.size cN cD uN uD _ from ⟨B2b.out, B3b.out, BQ.out, G9.out⟩)
    have e0 : (uN == 0) = true := by rw [U0.out]; rfl
    have e1 : (cN == 0) = true := by rw [K0.out]; rfl
    have ne1 : w.heap.size ≠ w8.heap.size := by omega
    have ne2 : w.heap.size + 1 ≠ w8.heap.size := by omega
    refine (wpIn_wide (n := 3)).1 ?_
    refine wpIn_region_held (Kept w w.heap.size (w.heap.size + 1) w8.heap.size cN cD uN uD) 13 (by kernel_rfl) rfl rfl ?_
    have KF := Lib.hid ((KS.out.put2 M1 ne1 (Nat.le_refl _)).put3 M2 ne2 M3)
    have hS := KS.out.drew
    iterate 10 (first
      | (refine wpAnyHIn_take 0 (v := ?_) rfl (by kernel_rfl) (by kernel_rfl) (by kernel_rfl) (by decide +kernel) (fun _ _ _ h => h) (fun _ _ _ => trivial) (by rfl) (fun w' hSw => ?_) hS ?_; rotate_left 1; (focus (obtain ⟨⟨a0, a1, _, _⟩, ⟨b0, b1, _, _⟩, ⟨c0, c1, _, _⟩, _⟩ := hSw; go_simp; try with_reducible rfl)); simp only [Act.put, List.setIfInBounds_toArray, List.set_cons_zero, List.set_cons_succ])
      | (refine wpAnyHIn_take 1 (v := ?_) rfl (by kernel_rfl) (by kernel_rfl) (by kernel_rfl) (by decide +kernel) (fun _ _ _ h => h) (fun _ _ _ => trivial) (by rfl) (fun w' hSw => ?_) hS ?_; rotate_left 1; (focus (obtain ⟨⟨a0, a1, _, _⟩, ⟨b0, b1, _, _⟩, ⟨c0, c1, _, _⟩, _⟩ := hSw; go_simp; try with_reducible rfl)); simp only [Act.put, List.setIfInBounds_toArray, List.set_cons_zero, List.set_cons_succ])
      | (refine wpAnyHIn_take 2 (v := ?_) rfl (by kernel_rfl) (by kernel_rfl) (by kernel_rfl) (by decide +kernel) (fun _ _ _ h => h) (fun _ _ _ => trivial) (by rfl) (fun w' hSw => ?_) hS ?_; rotate_left 1; (focus (obtain ⟨⟨a0, a1, _, _⟩, ⟨b0, b1, _, _⟩, ⟨c0, c1, _, _⟩, _⟩ := hSw; go_simp; try with_reducible rfl)); simp only [Act.put, List.setIfInBounds_toArray, List.set_cons_zero, List.set_cons_succ])
      | (refine wpAnyHIn_take 3 (v := ?_) rfl (by kernel_rfl) (by kernel_rfl) (by kernel_rfl) (by decide +kernel) (fun _ _ _ h => h) (fun _ _ _ => trivial) (by rfl) (fun w' hSw => ?_) hS ?_; rotate_left 1; (focus (obtain ⟨⟨a0, a1, _, _⟩, ⟨b0, b1, _, _⟩, ⟨c0, c1, _, _⟩, _⟩ := hSw; go_simp; try with_reducible rfl)); simp only [Act.put, List.setIfInBounds_toArray, List.set_cons_zero, List.set_cons_succ])
      | (refine wpAnyHIn_take 4 (v := ?_) rfl (by kernel_rfl) (by kernel_rfl) (by kernel_rfl) (by decide +kernel) (fun _ _ _ h => h) (fun _ _ _ => trivial) (by rfl) (fun w' hSw => ?_) hS ?_; rotate_left 1; (focus (obtain ⟨⟨a0, a1, _, _⟩, ⟨b0, b1, _, _⟩, ⟨c0, c1, _, _⟩, _⟩ := hSw; go_simp; try with_reducible rfl)); simp only [Act.put, List.setIfInBounds_toArray, List.set_cons_zero, List.set_cons_succ])
      | (refine wpAnyHIn_take 5 (v := ?_) rfl (by kernel_rfl) (by kernel_rfl) (by kernel_rfl) (by decide +kernel) (fun _ _ _ h => h) (fun _ _ _ => trivial) (by rfl) (fun w' hSw => ?_) hS ?_; rotate_left 1; (focus (obtain ⟨⟨a0, a1, _, _⟩, ⟨b0, b1, _, _⟩, ⟨c0, c1, _, _⟩, _⟩ := hSw; go_simp; try with_reducible rfl)); simp only [Act.put, List.setIfInBounds_toArray, List.set_cons_zero, List.set_cons_succ])
      | (refine wpAnyHIn_take 6 (v := ?_) rfl (by kernel_rfl) (by kernel_rfl) (by kernel_rfl) (by decide +kernel) (fun _ _ _ h => h) (fun _ _ _ => trivial) (by rfl) (fun w' hSw => ?_) hS ?_; rotate_left 1; (focus (obtain ⟨⟨a0, a1, _, _⟩, ⟨b0, b1, _, _⟩, ⟨c0, c1, _, _⟩, _⟩ := hSw; go_simp; try with_reducible rfl)); simp only [Act.put, List.setIfInBounds_toArray, List.set_cons_zero, List.set_cons_succ])
      | (refine wpAnyHIn_take 7 (v := ?_) rfl (by kernel_rfl) (by kernel_rfl) (by kernel_rfl) (by decide +kernel) (fun _ _ _ h => h) (fun _ _ _ => trivial) (by rfl) (fun w' hSw => ?_) hS ?_; rotate_left 1; (focus (obtain ⟨⟨a0, a1, _, _⟩, ⟨b0, b1, _, _⟩, ⟨c0, c1, _, _⟩, _⟩ := hSw; go_simp; try with_reducible rfl)); simp only [Act.put, List.setIfInBounds_toArray, List.set_cons_zero, List.set_cons_succ])
      | (refine wpAnyHIn_take 8 (v := ?_) rfl (by kernel_rfl) (by kernel_rfl) (by kernel_rfl) (by decide +kernel) (fun _ _ _ h => h) (fun _ _ _ => trivial) (by rfl) (fun w' hSw => ?_) hS ?_; rotate_left 1; (focus (obtain ⟨⟨a0, a1, _, _⟩, ⟨b0, b1, _, _⟩, ⟨c0, c1, _, _⟩, _⟩ := hSw; go_simp; try with_reducible rfl)); simp only [Act.put, List.setIfInBounds_toArray, List.set_cons_zero, List.set_cons_succ])
      | (refine wpAnyHIn_take 9 (v := ?_) rfl (by kernel_rfl) (by kernel_rfl) (by kernel_rfl) (by decide +kernel) (fun _ _ _ h => h) (fun _ _ _ => trivial) (by rfl) (fun w' hSw => ?_) hS ?_; rotate_left 1; (focus (obtain ⟨⟨a0, a1, _, _⟩, ⟨b0, b1, _, _⟩, ⟨c0, c1, _, _⟩, _⟩ := hSw; go_simp; try with_reducible rfl)); simp only [Act.put, List.setIfInBounds_toArray, List.set_cons_zero, List.set_cons_succ]))
    refine wpAnyHIn_ready [10] (by kernel_rfl) (by simp) ?_
    refine AllHIn.cons rfl (by rfl) (fun K hK => ?_) AllHIn.nil
    go_simp
    have hS := hS.put2 M1 ne1 (Nat.le_refl _)
    refine hK.out _ _ hS ?_
    clear hK K
    refine wpAnyHIn_ready [11] (by kernel_rfl) (by simp) ?_
    refine AllHIn.cons rfl (by rfl) (fun K hK => ?_) AllHIn.nil
    go_simp
    have hS := hS.put3 M2 ne2 M3
    refine hK.out _ _ hS ?_
    clear hK K
    iterate 1 (first
      | (refine wpAnyHIn_take 12 (v := ?_) rfl (by kernel_rfl) (by kernel_rfl) (by kernel_rfl) (by decide +kernel) (fun _ _ _ h => h) (fun _ _ _ => trivial) (by rfl) (fun w' hSw => ?_) hS ?_; rotate_left 1; (focus (skip; go_simp; try with_reducible rfl)); simp only [Act.put, List.setIfInBounds_toArray, List.set_cons_zero, List.set_cons_succ]))
    refine wpAnyHIn_done (by kernel_rfl) ?_ _
    clear hS
    go_wp2_with fail
    obtain ⟨⟨r0, r1, _, _⟩, ⟨r2, r3, _, _⟩, _, rg⟩ := KF.out
    exact bodyPost_ret (v := .tuple #[.agg #[.int .i64 cN, .int .i64 cD], .agg #[.int .i64 uN, .int .i64 uD], .bool true]) (by simp [results, Try.results47, go_sem, r0, r1, r2, r3]) rfl ⟨rfl, rg.drew⟩
  · have d2 : ¬ ((n : Int) = 2) := by omega
    have d3 : (2 : Int) < (n : Int) := by omega
    go_enter Try.func47, Try.ntmps47
    go_wp2_with (first
      | (go_at_call 19; (with_reducible refine (C19.out _ G0.out).mono ?_); rintro e w1 ⟨rfl, g1⟩; obtain ⟨p0, p1, p2, p3⟩ := B2.out.gr g1; have G1 := Lib.hid (((G0.out.trans g1).setCell (p := ⟨w.heap.size, 0, none⟩) (Nat.le_refl _) (.int .i64 cN)).setCell (p := ⟨w.heap.size, 1, none⟩) (Nat.le_refl _) (.int .i64 cD)); have B2a := Lib.hid ((B2.out.gr g1).put (x' := cN) (y' := cD)); have B3a := Lib.hid ((B3.out.gr g1).far M1 (.int .i64 cN) (.int .i64 cD)); clear g1)
      | (go_at_call 21; (with_reducible refine (C21.out _ G1.out).mono ?_); rintro e w2 ⟨rfl, g2⟩; obtain ⟨p0, p1, p2, p3⟩ := B3a.out.gr g2; have G2 := Lib.hid (((G1.out.trans g2).setCell (p := ⟨w.heap.size + 1, 0, none⟩) M3 (.int .i64 uN)).setCell (p := ⟨w.heap.size + 1, 1, none⟩) M3 (.int .i64 uD)); have B2b := Lib.hid ((B2a.out.gr g2).far M2 (.int .i64 uN) (.int .i64 uD)); have B3b := Lib.hid ((B3a.out.gr g2).put (x' := uN) (y' := uD)); clear g2)
      | (go_at_call 39; (with_reducible refine (C39.out _ G2.out).mono ?_); rintro e w3 ⟨rfl, g3⟩; have g3' := g3.alloc (.cells #[.int .i64 lA, .int .i64 lB, .int .i64 lD] 37); have G3 := Lib.hid (G2.out.trans g3'); have B2b := Lib.hid (B2b.out.gr g3'); have B3b := Lib.hid (B3b.out.gr g3'); have BM := Lib.hid (show Box3 (w3.alloc (.cells #[.int .i64 lA, .int .i64 lB, .int .i64 lD] 37)) w3.heap.size lA lB lD from Box3.new rfl); clear g3 g3')
      | (go_at_call 40; (with_reducible refine (C40.out _ G3.out).mono ?_); rintro e w4 ⟨rfl, g4⟩; have g4' := g4.alloc (.cells #[.int .i64 xA, .int .i64 xB, .int .i64 xD] 37); have G4 := Lib.hid (G3.out.trans g4'); have B2b := Lib.hid (B2b.out.gr g4'); have B3b := Lib.hid (B3b.out.gr g4'); have BM := Lib.hid (BM.out.gr g4'); have BX := Lib.hid (show Box3 (w4.alloc (.cells #[.int .i64 xA, .int .i64 xB, .int .i64 xD] 37)) w4.heap.size xA xB xD from Box3.new rfl); clear g4 g4')
      | (go_at_call 43; (with_reducible refine (C43.out _ G4.out).mono ?_); rintro e w5 ⟨bw, cw, m', W', rfl, c1, c2', gd, rd, g5⟩; have GD := Lib.hid gd; have RD := Lib.hid rd; clear gd rd; have G5 := Lib.hid (G4.out.trans g5); have B2b := Lib.hid (B2b.out.gr g5); have B3b := Lib.hid (B3b.out.gr g5); have BM := Lib.hid (BM.out.gr g5); have BX := Lib.hid (BX.out.gr g5); clear g5)
      | (go_at_call 23; (with_reducible refine (C23.out _ G5.out).mono ?_); rintro e w6 ⟨a3, c3, rfl, c4, c5, rl, g6⟩; have RL := Lib.hid rl; clear rl; have G6 := Lib.hid (G5.out.trans g6); have B2b := Lib.hid (B2b.out.gr g6); have B3b := Lib.hid (B3b.out.gr g6); have BM := Lib.hid (BM.out.gr g6); have BX := Lib.hid (BX.out.gr g6); have RD := Lib.hid (RD.out.gr g6); obtain ⟨bm0, bm1, bm2, _, _, _⟩ := BM.out; clear g6)
      | (go_at_call 34; (with_reducible refine (C34.out _ G6.out).mono ?_); rintro e w7 ⟨rfl, g7⟩; have g7' := g7.alloc (.cells #[.int .i64 cN, .int .i64 cD] 27); have G7 := Lib.hid (G6.out.trans g7'); have B2b := Lib.hid (B2b.out.gr g7'); have B3b := Lib.hid (B3b.out.gr g7'); have BM := Lib.hid (BM.out.gr g7'); have BX := Lib.hid (BX.out.gr g7'); have RD := Lib.hid (RD.out.gr g7'); have RL := Lib.hid (RL.out.gr g7'); have BP := Lib.hid (show Box2 (w7.alloc (.cells #[.int .i64 cN, .int .i64 cD] 27)) w7.heap.size cN cD from Box2.new rfl); obtain ⟨bx0, bx1, bx2, _, _, _⟩ := BX.out; clear g7 g7')
      | (go_at_call 36; (with_reducible refine (C36.out _ G7.out).mono ?_); rintro e w8 ⟨rfl, g8⟩; have L8 := World.block_lt_of_cell? w8 _ (B3b.out.gr g8).1; simp only at L8; have g8' := g8.alloc (.cells #[.int .i64 uN, .int .i64 uD] 27); have G8 := Lib.hid (G7.out.trans g8'); have B2b := Lib.hid (B2b.out.gr g8'); have B3b := Lib.hid (B3b.out.gr g8'); have BM := Lib.hid (BM.out.gr g8'); have BX := Lib.hid (BX.out.gr g8'); have RD := Lib.hid (RD.out.gr g8'); have RL := Lib.hid (RL.out.gr g8'); have BP := Lib.hid (BP.out.gr g8'); have BQ := Lib.hid (show Box2 (w8.alloc (.cells #[.int .i64 uN, .int .i64 uD] 27)) w8.heap.size uN uD from Box2.new rfl); obtain ⟨b2b0, b2b1, _, _⟩ := B2b.out; clear g8 g8')
      | (go_at_call 42; (with_reducible refine (C42.out _ G8.out bw cw m' W' GD.out RD.out).mono ?_); rintro e w9 ⟨rfl, g9⟩; have G9 := Lib.hid (G8.out.trans g9); have B2b := Lib.hid (B2b.out.gr g9); have B3b := Lib.hid (B3b.out.gr g9); have BM := Lib.hid (BM.out.gr g9); have BX := Lib.hid (BX.out.gr g9); have RD := Lib.hid (RD.out.gr g9); have RL := Lib.hid (RL.out.gr g9); have BP := Lib.hid (BP.out.gr g9); have BQ := Lib.hid (BQ.out.gr g9); obtain ⟨b2b0, b2b1, _, _⟩ := B2b.out; obtain ⟨b3b0, b3b1, _, _⟩ := B3b.out; obtain ⟨bp0, bp1, _, _⟩ := BP.out; obtain ⟨bq0, bq1, _, _⟩ := BQ.out; clear g9)
      | (go_at_call 18; (with_reducible refine (C18.out hne _ G9.out a3 c3 c4 RL.out).mono ?_); rintro e w10 ⟨rfl, g10⟩; have L10 := World.block_lt_of_cell? w10 _ (B3b.out.gr g10).1; simp only at L10; have g10' := g10.alloc (.cells #[.int .i64 uN, .int .i64 uD] 27); have G10 := Lib.hid (G9.out.trans g10'); have B2b := Lib.hid (B2b.out.gr g10'); have B3b := Lib.hid (B3b.out.gr g10'); have BM := Lib.hid (BM.out.gr g10'); have BX := Lib.hid (BX.out.gr g10'); have RD := Lib.hid (RD.out.gr g10'); have RL := Lib.hid (RL.out.gr g10'); have BP := Lib.hid (BP.out.gr g10'); have BQ := Lib.hid (BQ.out.gr g10'); have BT := Lib.hid (show Box2 (w10.alloc (.cells #[.int .i64 uN, .int .i64 uD] 27)) w10.heap.size uN uD from Box2.new rfl); obtain ⟨b2b0, b2b1, _, _⟩ := B2b.out; obtain ⟨b3b0, b3b1, _, _⟩ := B3b.out; clear g10 g10'))
    generalize w10.alloc (.cells #[.int .i64 uN, .int .i64 uD] 27) = wz at *
    have KS := Lib.hid (show Kept w w.heap.size (w.heap.size + 1) w10.heap.size cN cD uN uD _ from ⟨B2b.out, B3b.out, BT.out, G10.out⟩)
    have ne1 : w.heap.size ≠ w10.heap.size := by omega
    have ne2 : w.heap.size + 1 ≠ w10.heap.size := by omega
    refine (wpIn_wide (n := 3)).1 ?_
    refine wpIn_region_held (Kept w w.heap.size (w.heap.size + 1) w10.heap.size cN cD uN uD) 12 (by kernel_rfl) rfl rfl ?_
    have KF := Lib.hid ((KS.out.put2 M1 ne1 (Nat.le_refl _)).put3 M2 ne2 M3)
    have hS := KS.out.drew
    iterate 9 (first
      | (refine wpAnyHIn_take 0 (v := ?_) rfl (by kernel_rfl) (by kernel_rfl) (by kernel_rfl) (by decide +kernel) (fun _ _ _ h => h) (fun _ _ _ => trivial) (by rfl) (fun w' hSw => ?_) hS ?_; rotate_left 1; (focus (obtain ⟨⟨a0, a1, _, _⟩, ⟨b0, b1, _, _⟩, ⟨c0, c1, _, _⟩, _⟩ := hSw; go_simp; try with_reducible rfl)); simp only [Act.put, List.setIfInBounds_toArray, List.set_cons_zero, List.set_cons_succ])
      | (refine wpAnyHIn_take 1 (v := ?_) rfl (by kernel_rfl) (by kernel_rfl) (by kernel_rfl) (by decide +kernel) (fun _ _ _ h => h) (fun _ _ _ => trivial) (by rfl) (fun w' hSw => ?_) hS ?_; rotate_left 1; (focus (obtain ⟨⟨a0, a1, _, _⟩, ⟨b0, b1, _, _⟩, ⟨c0, c1, _, _⟩, _⟩ := hSw; go_simp; try with_reducible rfl)); simp only [Act.put, List.setIfInBounds_toArray, List.set_cons_zero, List.set_cons_succ])
      | (refine wpAnyHIn_take 2 (v := ?_) rfl (by kernel_rfl) (by kernel_rfl) (by kernel_rfl) (by decide +kernel) (fun _ _ _ h => h) (fun _ _ _ => trivial) (by rfl) (fun w' hSw => ?_) hS ?_; rotate_left 1; (focus (obtain ⟨⟨a0, a1, _, _⟩, ⟨b0, b1, _, _⟩, ⟨c0, c1, _, _⟩, _⟩ := hSw; go_simp; try with_reducible rfl)); simp only [Act.put, List.setIfInBounds_toArray, List.set_cons_zero, List.set_cons_succ])
      | (refine wpAnyHIn_take 3 (v := ?_) rfl (by kernel_rfl) (by kernel_rfl) (by kernel_rfl) (by decide +kernel) (fun _ _ _ h => h) (fun _ _ _ => trivial) (by rfl) (fun w' hSw => ?_) hS ?_; rotate_left 1; (focus (obtain ⟨⟨a0, a1, _, _⟩, ⟨b0, b1, _, _⟩, ⟨c0, c1, _, _⟩, _⟩ := hSw; go_simp; try with_reducible rfl)); simp only [Act.put, List.setIfInBounds_toArray, List.set_cons_zero, List.set_cons_succ])
      | (refine wpAnyHIn_take 4 (v := ?_) rfl (by kernel_rfl) (by kernel_rfl) (by kernel_rfl) (by decide +kernel) (fun _ _ _ h => h) (fun _ _ _ => trivial) (by rfl) (fun w' hSw => ?_) hS ?_; rotate_left 1; (focus (obtain ⟨⟨a0, a1, _, _⟩, ⟨b0, b1, _, _⟩, ⟨c0, c1, _, _⟩, _⟩ := hSw; go_simp; try with_reducible rfl)); simp only [Act.put, List.setIfInBounds_toArray, List.set_cons_zero, List.set_cons_succ])
      | (refine wpAnyHIn_take 5 (v := ?_) rfl (by kernel_rfl) (by kernel_rfl) (by kernel_rfl) (by decide +kernel) (fun _ _ _ h => h) (fun _ _ _ => trivial) (by rfl) (fun w' hSw => ?_) hS ?_; rotate_left 1; (focus (obtain ⟨⟨a0, a1, _, _⟩, ⟨b0, b1, _, _⟩, ⟨c0, c1, _, _⟩, _⟩ := hSw; go_simp; try with_reducible rfl)); simp only [Act.put, List.setIfInBounds_toArray, List.set_cons_zero, List.set_cons_succ])
      | (refine wpAnyHIn_take 6 (v := ?_) rfl (by kernel_rfl) (by kernel_rfl) (by kernel_rfl) (by decide +kernel) (fun _ _ _ h => h) (fun _ _ _ => trivial) (by rfl) (fun w' hSw => ?_) hS ?_; rotate_left 1; (focus (obtain ⟨⟨a0, a1, _, _⟩, ⟨b0, b1, _, _⟩, ⟨c0, c1, _, _⟩, _⟩ := hSw; go_simp; try with_reducible rfl)); simp only [Act.put, List.setIfInBounds_toArray, List.set_cons_zero, List.set_cons_succ])
      | (refine wpAnyHIn_take 7 (v := ?_) rfl (by kernel_rfl) (by kernel_rfl) (by kernel_rfl) (by decide +kernel) (fun _ _ _ h => h) (fun _ _ _ => trivial) (by rfl) (fun w' hSw => ?_) hS ?_; rotate_left 1; (focus (obtain ⟨⟨a0, a1, _, _⟩, ⟨b0, b1, _, _⟩, ⟨c0, c1, _, _⟩, _⟩ := hSw; go_simp; try with_reducible rfl)); simp only [Act.put, List.setIfInBounds_toArray, List.set_cons_zero, List.set_cons_succ])
      | (refine wpAnyHIn_take 8 (v := ?_) rfl (by kernel_rfl) (by kernel_rfl) (by kernel_rfl) (by decide +kernel) (fun _ _ _ h => h) (fun _ _ _ => trivial) (by rfl) (fun w' hSw => ?_) hS ?_; rotate_left 1; (focus (obtain ⟨⟨a0, a1, _, _⟩, ⟨b0, b1, _, _⟩, ⟨c0, c1, _, _⟩, _⟩ := hSw; go_simp; try with_reducible rfl)); simp only [Act.put, List.setIfInBounds_toArray, List.set_cons_zero, List.set_cons_succ]))
    refine wpAnyHIn_ready [9] (by kernel_rfl) (by simp) ?_
    refine AllHIn.cons rfl (by rfl) (fun K hK => ?_) AllHIn.nil
    go_simp
    have hS := hS.put2 M1 ne1 (Nat.le_refl _)
    refine hK.out _ _ hS ?_
    clear hK K
    refine wpAnyHIn_ready [10] (by kernel_rfl) (by simp) ?_
    refine AllHIn.cons rfl (by rfl) (fun K hK => ?_) AllHIn.nil
    go_simp
    have hS := hS.put3 M2 ne2 M3
    refine hK.out _ _ hS ?_
    clear hK K
    iterate 1 (first
      | (refine wpAnyHIn_take 11 (v := ?_) rfl (by kernel_rfl) (by kernel_rfl) (by kernel_rfl) (by decide +kernel) (fun _ _ _ h => h) (fun _ _ _ => trivial) (by rfl) (fun w' hSw => ?_) hS ?_; rotate_left 1; (focus (skip; go_simp; try with_reducible rfl)); simp only [Act.put, List.setIfInBounds_toArray, List.set_cons_zero, List.set_cons_succ]))
    refine wpAnyHIn_done (by kernel_rfl) ?_ _
    clear hS
    go_wp2_with fail
    obtain ⟨⟨r0, r1, _, _⟩, ⟨r2, r3, _, _⟩, _, rg⟩ := KF.out
    exact bodyPost_ret (v := .tuple #[.agg #[.int .i64 cN, .int .i64 cD], .agg #[.int .i64 uN, .int .i64 uD], .bool true]) (by simp [results, Try.results47, go_sem, r0, r1, r2, r3]) rfl ⟨rfl, rg.drew⟩

end Go.Proofs.Ytbhndfnfohoidaa
