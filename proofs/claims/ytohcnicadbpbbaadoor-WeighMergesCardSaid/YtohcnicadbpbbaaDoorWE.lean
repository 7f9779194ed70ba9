/- Contracts of chapter 7: the row of the reference. -/
import Derived.Test.YtohcnicadbpbbaaDoorWD
import Derived.Deep.OwnRows
namespace Go.Proofs.YtohcnicadbpbbaaDoor
open Go.RowKit Go.Firn

set_option maxHeartbeats 1000000 in
theorem ahead_any (a a2 : Option Addr) (n c d : Nat) (f g : Nat → Int) (i j : Nat) (w : World) (hi : i < n) (hj : j < n) (hr : RdI w a n f) (hs : RdI w a2 n g)
    (hf : ∀ k, k < n → 0 ≤ f k ∧ f k ≤ 1000) (hg : ∀ k, k < n → 0 ≤ g k ∧ g k ≤ 1000) :
    Calls Tryd.prog 84 #[.agg #[.slice a n c, .slice a2 n d], .int .i64 i, .int .i64 j] w (RetB (decide (0 < crs f g i j)) w) := by
  obtain ⟨W0, hW0⟩ : ∃ W0, w.alloc (.cells #[.slice a n c, .slice a2 n d] 24) = W0 := ⟨_, rfl⟩
  have G0 := Lib.hid (show Gr w W0 by rw [← hW0]; exact (Gr.refl w).alloc _)
  have B := Lib.hid (show BoxO W0 w.heap.size (.slice a n c) (.slice a2 n d) by rw [← hW0]; exact BoxO.new rfl)
  obtain ⟨b1, o1, e1, hc1⟩ := (hr.gr G0.out).at hi
  obtain ⟨b2, o2, e2, hc2⟩ := (hs.gr G0.out).at hi
  have f1 := hc1 i hi
  have f2 := hc1 j hj
  have g1 := hc2 i hi
  have g2 := hc2 j hj
  have i1 : (i : Int) < n := by omega
  have j1 : (j : Int) < n := by omega
  have m1 := mul_bd (a := g i) (b := f j) (A := 1000) (B := 1000) (by have := hg i hi; omega) (hg i hi).2 (by have := hf j hj; omega) (hf j hj).2
  have m2 := mul_bd (a := g j) (b := f i) (A := 1000) (B := 1000) (by have := hg j hj; omega) (hg j hj).2 (by have := hf i hi; omega) (hf i hi).2
  have q1 : IntKind.i64.wrap (g i * f j) = g i * f j := IntWalk.i64_in _ (by omega)
  have q2 : IntKind.i64.wrap (g j * f i) = g j * f i := IntWalk.i64_in _ (by omega)
  have E := Lib.hid (show decide (0 < crs f g i j) = decide (g j * f i < g i * f j) by unfold crs; exact decide_eq_decide.2 (by omega))
  obtain ⟨p0, p1⟩ := B.out
  rw [E.out]
  clear hc1 hc2 hr hs hf hg m1 m2 E
  subst e1
  subst e2
  generalize f i = fi at *
  generalize f j = fj at *
  generalize g i = gi at *
  generalize g j = gj at *
  go_enter Tryd.func84, Tryd.ntmps84
  go_wp2_with fail
  go_quiet (fail)
  go_wp2_with fail
  go_ret
  exact ⟨rfl, G0.out.drewN _⟩

/-- Whether an outcome has neither noise nor signal. -/
def nB (f g : Nat → Int) (i : Nat) : Bool := decide (g i = 0) && decide (f i = 0)
theorem nB_nth {f g : Nat → Int} (hf : ∀ i, 0 ≤ f i) (hg : ∀ i, 0 ≤ g i) (i : Nat) : nth f g i = if nB f g i then 1 else 0 := by
  have a := hf i
  have b := hg i
  unfold nth nB
  by_cases h1 : g i = 0 <;> by_cases h2 : f i = 0 <;> simp [h1, h2]
  omega
set_option maxHeartbeats 1000000 in
theorem nothing_any (a a2 : Option Addr) (n c d : Nat) (f g : Nat → Int) (i : Nat) (w : World) (hi : i < n) (hr : RdI w a n f) (hs : RdI w a2 n g) :
    Calls Tryd.prog 83 #[.agg #[.slice a n c, .slice a2 n d], .int .i64 i] w (RetB (nB f g i) w) := by
  obtain ⟨W0, hW0⟩ : ∃ W0, w.alloc (.cells #[.slice a n c, .slice a2 n d] 24) = W0 := ⟨_, rfl⟩
  have G0 := Lib.hid (show Gr w W0 by rw [← hW0]; exact (Gr.refl w).alloc _)
  have B := Lib.hid (show BoxO W0 w.heap.size (.slice a n c) (.slice a2 n d) by rw [← hW0]; exact BoxO.new rfl)
  obtain ⟨b1, o1, e1, hc1⟩ := (hr.gr G0.out).at hi
  obtain ⟨b2, o2, e2, hc2⟩ := (hs.gr G0.out).at hi
  have f1 := hc1 i hi
  have g1 := hc2 i hi
  have i1 : (i : Int) < n := by omega
  obtain ⟨p0, p1⟩ := B.out
  have E := Lib.hid (show nB f g i = (decide (g i = 0) && decide (f i = 0)) from rfl)
  rw [E.out]
  clear hc1 hc2 hr hs E
  subst e1
  subst e2
  generalize f i = fi at *
  generalize g i = gi at *
  by_cases h : gi = 0
  · subst h
    by_cases h : fi = 0
    · subst h
      go_enter Tryd.func83, Tryd.ntmps83
      go_wp2_with fail
      go_ret
      exact ⟨rfl, G0.out⟩
    · have h2 : (fi == 0) = false := by simp [h]
      have h3 : decide (fi = 0) = false := by simp [h]
      go_enter Tryd.func83, Tryd.ntmps83
      go_wp2_with fail
      go_ret
      exact ⟨by simp [h], G0.out⟩
  · have h2 : (gi == 0) = false := by simp [h]
    have h3 : decide (gi = 0) = false := by simp [h]
    go_enter Tryd.func83, Tryd.ntmps83
    go_wp2_with fail
    go_ret
    exact ⟨by simp [h], G0.out⟩

/-- The row in block b holds F 0, F 1, .. and may be written. -/
def RowI (w : World) (b m : Nat) (F : Nat → Int) : Prop := ∀ p, p < m → w.cell? ⟨b, p, none⟩ = some (.int .i64 (F p)) ∧ w.frozen? ⟨b, p, none⟩ = false
theorem RowI.gr {w w' : World} {b m : Nat} {F : Nat → Int} (h : RowI w b m F) (g : Gr w w') : RowI w' b m F :=
  fun p hp => ⟨g.cell (h p hp).1, (Below.frozen g (World.block_lt_of_cell? w _ (h p hp).1)).trans (h p hp).2⟩
theorem RowI.set {w : World} {b m : Nat} {F : Nat → Int} (h : RowI w b m F) (q : Nat) (x : Int) : RowI (w.setCell ⟨b, q, none⟩ (.int .i64 x)) b m (fun p => if p = q then x else F p) := fun p hp => by
  refine ⟨?_, by simpa using (h p hp).2⟩
  by_cases h1 : p = q
  · subst h1
    simp only [if_pos]
    exact cell_near (h _ hp).1 _
  · simp only [if_neg h1]
    exact cell_by (h _ hp).1 (Ne.symm h1) _
theorem RowI.new (w : World) (n e : Nat) {b : Nat} (hb : w.heap.size = b) : RowI (w.alloc (.cells (madeCells #[.int .i64 0] n) e)) b n (fun _ => 0) := fun p hp => by
  have hv : (madeCells #[Value.int .i64 0] n)[p]? = some (.int .i64 0) := by simp [madeCells, hp, Nat.mod_one]
  exact (Gr.refl _).fresh' hb hv
theorem RowI.rd {w : World} {b m : Nat} {F : Nat → Int} (h : RowI w b m F) : RdI w (some ⟨b, 0, none⟩) m F := .inr ⟨b, 0, rfl, fun i hi => by rw [Nat.zero_add]; exact (h i hi).1⟩

theorem refB_A {f g : Nat → Int} (hf : ∀ i, 0 ≤ f i) (hg : ∀ i, 0 ≤ g i) {a b : Nat} (hx : nB f g a = true) (hy : nB f g b = false) : refB f g a b = true := by
  unfold refB; rw [nB_nth hf hg, nB_nth hf hg, hx, hy]; simp
theorem refB_B {f g : Nat → Int} (hf : ∀ i, 0 ≤ f i) (hg : ∀ i, 0 ≤ g i) {a b : Nat} (hx : nB f g a = false) (hy : nB f g b = true) : refB f g a b = false := by
  unfold refB; rw [nB_nth hf hg, nB_nth hf hg, hx, hy]; simp
theorem refB_S {f g : Nat → Int} (hf : ∀ i, 0 ≤ f i) (hg : ∀ i, 0 ≤ g i) {a b : Nat} (hx : nB f g a = nB f g b) : refB f g a b = if 0 < crs f g b a then true else !decide (0 < crs f g a b) && decide (b < a) := by
  unfold refB; rw [nB_nth hf hg, nB_nth hf hg, hx]; simp
theorem refB_C {f g : Nat → Int} (hf : ∀ i, 0 ≤ f i) (hg : ∀ i, 0 ≤ g i) {a b : Nat} (hx : nB f g a = nB f g b) (h1 : 0 < crs f g b a) : refB f g a b = true := by rw [refB_S hf hg hx, if_pos h1]
theorem refB_D {f g : Nat → Int} (hf : ∀ i, 0 ≤ f i) (hg : ∀ i, 0 ≤ g i) {a b : Nat} (hx : nB f g a = nB f g b) (h1 : ¬ 0 < crs f g b a) (h2 : 0 < crs f g a b) : refB f g a b = false := by rw [refB_S hf hg hx, if_neg h1, decide_eq_true h2]; rfl
theorem refB_E {f g : Nat → Int} (hf : ∀ i, 0 ≤ f i) (hg : ∀ i, 0 ≤ g i) {a b : Nat} (hx : nB f g a = nB f g b) (h1 : ¬ 0 < crs f g b a) (h2 : ¬ 0 < crs f g a b) (h3 : b < a) : refB f g a b = true := by rw [refB_S hf hg hx, if_neg h1, decide_eq_false h2, decide_eq_true h3]; rfl
theorem refB_F {f g : Nat → Int} (hf : ∀ i, 0 ≤ f i) (hg : ∀ i, 0 ≤ g i) {a b : Nat} (hx : nB f g a = nB f g b) (h1 : ¬ 0 < crs f g b a) (h2 : ¬ 0 < crs f g a b) (h3 : ¬ b < a) : refB f g a b = false := by rw [refB_S hf hg hx, if_neg h1, decide_eq_false h2, decide_eq_false h3]; rfl

set_option maxHeartbeats 16000000 in
set_option maxRecDepth 100000 in
theorem refrow_any (a a2 : Option Addr) (n c d : Nat) (f g : Nat → Int) (w : World) (hn : n ≤ 10) (hr : RdI w a n f) (hs : RdI w a2 n g) (hf : ∀ i, 0 ≤ f i) (hg : ∀ i, 0 ≤ g i)
    (hf1 : ∀ k, k < n → 0 ≤ f k ∧ f k ≤ 1000) (hg1 : ∀ k, k < n → 0 ≤ g k ∧ g k ≤ 1000) :
    Calls Tryd.prog 58 #[.agg #[.slice a n c, .slice a2 n d]] w (RetI1 n (fun p => (rowN f g n p : Int)) w) := by
  obtain ⟨W0, hW0⟩ : ∃ W0, w.alloc (.cells #[.slice a n c, .slice a2 n d] 24) = W0 := ⟨_, rfl⟩
  have G0 := Lib.hid (show Gr w W0 by rw [← hW0]; exact (Gr.refl w).alloc _)
  have BX := Lib.hid (show BoxO W0 w.heap.size (.slice a n c) (.slice a2 n d) by rw [← hW0]; exact BoxO.new rfl)
  have hmk := run_make_row' (P := Tryd.prog) 22 3 (.int .i64 0) 8 Tryd.underlying22 Tryd.info3 rfl .i64 .i64 n (by omega) (by omega) W0
  have HN := Lib.hid (fun (i : Nat) (hi : i < n) (w' : World) (k : Gr W0 w') => nothing_any a a2 n c d f g i w' hi (hr.gr (G0.out.trans k)) (hs.gr (G0.out.trans k)))
  have HA := Lib.hid (fun (i j : Nat) (hi : i < n) (hj : j < n) (w' : World) (k : Gr W0 w') => ahead_any a a2 n c d f g i j w' hi hj (hr.gr (G0.out.trans k)) (hs.gr (G0.out.trans k)) hf1 hg1)
  have HU := Lib.hid (fun p (hp : p < n) => U_row hf hg (n := n) (p := p) hp)
  have HP := Lib.hid (fun k (hk : k < n) => plc_lt hf hg (n := n) (a := k) hk)
  have HF := Lib.hid hf
  have HG := Lib.hid hg
  obtain ⟨W1, hW1⟩ : ∃ W1, W0.alloc (.cells (madeCells #[.int .i64 0] n) 3) = W1 := ⟨_, rfl⟩
  have L1 := Lib.hid (show Gr W0 W1 by rw [← hW1]; exact (Gr.refl _).alloc _)
  have RW := Lib.hid (show RowI W1 W0.heap.size n (fun _ => 0) by rw [← hW1]; exact RowI.new _ _ _ rfl)
  obtain ⟨b0, hb0⟩ : ∃ b0, W0.heap.size = b0 := ⟨_, rfl⟩
  have HB := Lib.hid hb0
  rw [hb0] at RW
  simp only [hb0, hW1] at hmk
  obtain ⟨p0, p1⟩ := BX.out
  clear hr hs hf hg hf1 hg1
  go_enter Tryd.func58, Tryd.ntmps58
  go_wp2_with fail
  clear p0 p1 hmk hW1 hW0 hb0
  go_loopw [4, 5, 14] (fun _ _ i wr => ∃ k : Nat, k ≤ n ∧ i = .int .i64 k ∧ Hid (Wr b0 W1 wr) ∧ Hid (RowI wr b0 n (U f g n k))) (fun _ _ i _ => n - (intOf i).toNat)
  case atStart => exact ⟨0, by omega, rfl, Lib.hid (Wr.refl _ _), RW⟩
  case round =>
    obtain ⟨k, hk, rfl, HW, HR⟩ := hrel
    have GW := Lib.hid (HW.out.gr L1.out (Nat.le_of_eq HB.out))
    by_cases hlt : k < n
    · have hlti : (k : Int) < (n : Int) := by omega
      have HNk := Lib.hid (HN.out k hlt)
      go_wp2_with fail
      go_loopw [5, 6, 7, 19] (fun pl _ _ i wi => ∃ j : Nat, j ≤ n ∧ i = .int .i64 j ∧ pl = .int .i64 (cntP (fun b => refB f g k b) j : Nat) ∧ Hid (Gr wr wi)) (fun _ _ _ i _ => n - (intOf i).toNat)
      case atStart => exact ⟨0, by omega, rfl, rfl, Lib.hid (Gr.refl _)⟩
      case round =>
        obtain ⟨j, hj0, rfl, rfl, GJ⟩ := hrel
        have GI := Lib.hid (GW.out.trans GJ.out)
        by_cases hj : j < n
        · have hji : (j : Int) < (n : Int) := by omega
          have HNj := Lib.hid (HN.out j hj)
          have HAjk := Lib.hid (HA.out j k hj hlt)
          have HAkj := Lib.hid (HA.out k j hlt hj)
          obtain ⟨p0, p1⟩ := BX.out.gr GI.out
          have EP := Lib.hid (show cntP (fun b => refB f g k b) (j + 1) = cntP (fun b => refB f g k b) j + (if refB f g k j = true then 1 else 0) from rfl)
          have cle := cntP_le (fun b => refB f g k b) j
          generalize cntP (fun b => refB f g k b) j = cp at *
          clear HN HA HU HP RW
          cases hx : nB f g k <;> cases hy : nB f g j
          · by_cases h1 : 0 < crs f g j k
            · rw [hx] at HNk
              rw [hy] at HNj
              rw [decide_eq_true h1] at HAjk
              have EQ := Lib.hid (show cntP (fun b => refB f g k b) (j + 1) = cp + 1 by rw [EP.out, refB_C HF.out HG.out (hx.trans hy.symm) h1]; rfl)
              clear EP
              clear HAkj
              go_wp2_with fail
              refine (wpIn_wide (n := 3)).1 ?_
              refine wpIn_region_held (fun w' => Gr wr w') 8 (by kernel_rfl) rfl rfl ?_
              have hS : Gr wr wr.drew := (Gr.refl wr).drew
              iterate 4 (first
                | (refine wpAnyHIn_take 0 (v := ?_) rfl (by kernel_rfl) (by kernel_rfl) (by kernel_rfl) (by decide +kernel) (fun _ _ _ h => h) (fun _ _ _ => trivial) (by rfl) (fun w' hSw => ?_) hS ?_; rotate_left 1; (focus (have z0 := hSw.cell p0; have z1 := hSw.cell p1; go_simp; try with_reducible rfl)); simp only [Act.put, List.setIfInBounds_toArray, List.set_cons_zero, List.set_cons_succ])
                | (refine wpAnyHIn_take 1 (v := ?_) rfl (by kernel_rfl) (by kernel_rfl) (by kernel_rfl) (by decide +kernel) (fun _ _ _ h => h) (fun _ _ _ => trivial) (by rfl) (fun w' hSw => ?_) hS ?_; rotate_left 1; (focus (have z0 := hSw.cell p0; have z1 := hSw.cell p1; go_simp; try with_reducible rfl)); simp only [Act.put, List.setIfInBounds_toArray, List.set_cons_zero, List.set_cons_succ])
                | (refine wpAnyHIn_take 3 (v := ?_) rfl (by kernel_rfl) (by kernel_rfl) (by kernel_rfl) (by decide +kernel) (fun _ _ _ h => h) (fun _ _ _ => trivial) (by rfl) (fun w' hSw => ?_) hS ?_; rotate_left 1; (focus (have z0 := hSw.cell p0; have z1 := hSw.cell p1; go_simp; try with_reducible rfl)); simp only [Act.put, List.setIfInBounds_toArray, List.set_cons_zero, List.set_cons_succ])
                | (refine wpAnyHIn_take 4 (v := ?_) rfl (by kernel_rfl) (by kernel_rfl) (by kernel_rfl) (by decide +kernel) (fun _ _ _ h => h) (fun _ _ _ => trivial) (by rfl) (fun w' hSw => ?_) hS ?_; rotate_left 1; (focus (have z0 := hSw.cell p0; have z1 := hSw.cell p1; go_simp; try with_reducible rfl)); simp only [Act.put, List.setIfInBounds_toArray, List.set_cons_zero, List.set_cons_succ]))
              refine wpAnyHIn_ready [2] (by kernel_rfl) (by simp) ?_
              refine AllHIn.cons rfl (by rfl) (fun K hK => ?_) AllHIn.nil
              go_simp
              refine ⟨trivial, ?_⟩
              refine (callsIn_wide.2 (HNk.out _ (GI.out.trans hS))).mono ?_
              rintro e wX ⟨rfl, gX⟩
              have hS : Gr wr wX := hS.trans gX
              refine hK.out _ _ hS ?_
              clear hK K gX
              refine wpAnyHIn_ready [5] (by kernel_rfl) (by simp) ?_
              refine AllHIn.cons rfl (by rfl) (fun K hK => ?_) AllHIn.nil
              go_simp
              refine ⟨trivial, ?_⟩
              refine (callsIn_wide.2 (HNj.out _ (GI.out.trans hS))).mono ?_
              rintro e wX ⟨rfl, gX⟩
              have hS : Gr wr wX := hS.trans gX
              refine hK.out _ _ hS ?_
              clear hK K gX
              iterate 2 (first
                | (refine wpAnyHIn_take 6 (v := ?_) rfl (by kernel_rfl) (by kernel_rfl) (by kernel_rfl) (by decide +kernel) (fun _ _ _ h => h) (fun _ _ _ => trivial) (by rfl) (fun w' hSw => ?_) hS ?_; rotate_left 1; (focus (skip; go_simp; try with_reducible rfl)); simp only [Act.put, List.setIfInBounds_toArray, List.set_cons_zero, List.set_cons_succ])
                | (refine wpAnyHIn_take 7 (v := ?_) rfl (by kernel_rfl) (by kernel_rfl) (by kernel_rfl) (by decide +kernel) (fun _ _ _ h => h) (fun _ _ _ => trivial) (by rfl) (fun w' hSw => ?_) hS ?_; rotate_left 1; (focus (skip; go_simp; try with_reducible rfl)); simp only [Act.put, List.setIfInBounds_toArray, List.set_cons_zero, List.set_cons_succ]))
              refine wpAnyHIn_done (by kernel_rfl) ?_ _
              have GL := Lib.hid hS
              clear hS
              clear p0 p1
              obtain ⟨p0, p1⟩ := BX.out.gr (GI.out.trans GL.out)
              go_wp2_with (first
                | (go_at_call 84; (with_reducible refine (HAjk.out _ (GI.out.trans GL.out)).mono ?_); rintro e wL ⟨rfl, gL⟩; have GL := Lib.hid (GL.out.trans gL); clear gL; clear p0 p1; obtain ⟨p0, p1⟩ := BX.out.gr (GI.out.trans GL.out)))
              go_roundw
              case rel => exact ⟨j + 1, hj, by go_num, by rw [EQ.out]; go_num, Lib.hid (GJ.out.trans GL.out)⟩
              case measure => simp [intOf]; omega
            · by_cases h2 : 0 < crs f g k j
              · rw [hx] at HNk
                rw [hy] at HNj
                rw [decide_eq_false h1] at HAjk
                rw [decide_eq_true h2] at HAkj
                have EQ := Lib.hid (show cntP (fun b => refB f g k b) (j + 1) = cp by rw [EP.out, refB_D HF.out HG.out (hx.trans hy.symm) h1 h2]; rfl)
                clear EP
                go_wp2_with fail
                refine (wpIn_wide (n := 3)).1 ?_
                refine wpIn_region_held (fun w' => Gr wr w') 8 (by kernel_rfl) rfl rfl ?_
                have hS : Gr wr wr.drew := (Gr.refl wr).drew
                iterate 4 (first
                  | (refine wpAnyHIn_take 0 (v := ?_) rfl (by kernel_rfl) (by kernel_rfl) (by kernel_rfl) (by decide +kernel) (fun _ _ _ h => h) (fun _ _ _ => trivial) (by rfl) (fun w' hSw => ?_) hS ?_; rotate_left 1; (focus (have z0 := hSw.cell p0; have z1 := hSw.cell p1; go_simp; try with_reducible rfl)); simp only [Act.put, List.setIfInBounds_toArray, List.set_cons_zero, List.set_cons_succ])
                  | (refine wpAnyHIn_take 1 (v := ?_) rfl (by kernel_rfl) (by kernel_rfl) (by kernel_rfl) (by decide +kernel) (fun _ _ _ h => h) (fun _ _ _ => trivial) (by rfl) (fun w' hSw => ?_) hS ?_; rotate_left 1; (focus (have z0 := hSw.cell p0; have z1 := hSw.cell p1; go_simp; try with_reducible rfl)); simp only [Act.put, List.setIfInBounds_toArray, List.set_cons_zero, List.set_cons_succ])
                  | (refine wpAnyHIn_take 3 (v := ?_) rfl (by kernel_rfl) (by kernel_rfl) (by kernel_rfl) (by decide +kernel) (fun _ _ _ h => h) (fun _ _ _ => trivial) (by rfl) (fun w' hSw => ?_) hS ?_; rotate_left 1; (focus (have z0 := hSw.cell p0; have z1 := hSw.cell p1; go_simp; try with_reducible rfl)); simp only [Act.put, List.setIfInBounds_toArray, List.set_cons_zero, List.set_cons_succ])
                  | (refine wpAnyHIn_take 4 (v := ?_) rfl (by kernel_rfl) (by kernel_rfl) (by kernel_rfl) (by decide +kernel) (fun _ _ _ h => h) (fun _ _ _ => trivial) (by rfl) (fun w' hSw => ?_) hS ?_; rotate_left 1; (focus (have z0 := hSw.cell p0; have z1 := hSw.cell p1; go_simp; try with_reducible rfl)); simp only [Act.put, List.setIfInBounds_toArray, List.set_cons_zero, List.set_cons_succ]))
                refine wpAnyHIn_ready [2] (by kernel_rfl) (by simp) ?_
                refine AllHIn.cons rfl (by rfl) (fun K hK => ?_) AllHIn.nil
                go_simp
                refine ⟨trivial, ?_⟩
                refine (callsIn_wide.2 (HNk.out _ (GI.out.trans hS))).mono ?_
                rintro e wX ⟨rfl, gX⟩
                have hS : Gr wr wX := hS.trans gX
                refine hK.out _ _ hS ?_
                clear hK K gX
                refine wpAnyHIn_ready [5] (by kernel_rfl) (by simp) ?_
                refine AllHIn.cons rfl (by rfl) (fun K hK => ?_) AllHIn.nil
                go_simp
                refine ⟨trivial, ?_⟩
                refine (callsIn_wide.2 (HNj.out _ (GI.out.trans hS))).mono ?_
                rintro e wX ⟨rfl, gX⟩
                have hS : Gr wr wX := hS.trans gX
                refine hK.out _ _ hS ?_
                clear hK K gX
                iterate 2 (first
                  | (refine wpAnyHIn_take 6 (v := ?_) rfl (by kernel_rfl) (by kernel_rfl) (by kernel_rfl) (by decide +kernel) (fun _ _ _ h => h) (fun _ _ _ => trivial) (by rfl) (fun w' hSw => ?_) hS ?_; rotate_left 1; (focus (skip; go_simp; try with_reducible rfl)); simp only [Act.put, List.setIfInBounds_toArray, List.set_cons_zero, List.set_cons_succ])
                  | (refine wpAnyHIn_take 7 (v := ?_) rfl (by kernel_rfl) (by kernel_rfl) (by kernel_rfl) (by decide +kernel) (fun _ _ _ h => h) (fun _ _ _ => trivial) (by rfl) (fun w' hSw => ?_) hS ?_; rotate_left 1; (focus (skip; go_simp; try with_reducible rfl)); simp only [Act.put, List.setIfInBounds_toArray, List.set_cons_zero, List.set_cons_succ]))
                refine wpAnyHIn_done (by kernel_rfl) ?_ _
                have GL := Lib.hid hS
                clear hS
                clear p0 p1
                obtain ⟨p0, p1⟩ := BX.out.gr (GI.out.trans GL.out)
                go_wp2_with (first
                  | (go_at_call 84; (with_reducible refine (HAjk.out _ (GI.out.trans GL.out)).mono ?_); rintro e wL ⟨rfl, gL⟩; have GL := Lib.hid (GL.out.trans gL); clear gL; clear p0 p1; obtain ⟨p0, p1⟩ := BX.out.gr (GI.out.trans GL.out))
                  | (go_at_call 84; (with_reducible refine (HAkj.out _ (GI.out.trans GL.out)).mono ?_); rintro e wL ⟨rfl, gL⟩; have GL := Lib.hid (GL.out.trans gL); clear gL; clear p0 p1; obtain ⟨p0, p1⟩ := BX.out.gr (GI.out.trans GL.out)))
                go_roundw
                case rel => exact ⟨j + 1, hj, by go_num, by rw [EQ.out], Lib.hid (GJ.out.trans GL.out)⟩
                case measure => simp [intOf]; omega
              · by_cases h3 : j < k
                · rw [hx] at HNk
                  rw [hy] at HNj
                  rw [decide_eq_false h1] at HAjk
                  rw [decide_eq_false h2] at HAkj
                  have h4 : (j : Int) < (k : Int) := by omega
                  have EQ := Lib.hid (show cntP (fun b => refB f g k b) (j + 1) = cp + 1 by rw [EP.out, refB_E HF.out HG.out (hx.trans hy.symm) h1 h2 h3]; rfl)
                  clear EP
                  go_wp2_with fail
                  refine (wpIn_wide (n := 3)).1 ?_
                  refine wpIn_region_held (fun w' => Gr wr w') 8 (by kernel_rfl) rfl rfl ?_
                  have hS : Gr wr wr.drew := (Gr.refl wr).drew
                  iterate 4 (first
                    | (refine wpAnyHIn_take 0 (v := ?_) rfl (by kernel_rfl) (by kernel_rfl) (by kernel_rfl) (by decide +kernel) (fun _ _ _ h => h) (fun _ _ _ => trivial) (by rfl) (fun w' hSw => ?_) hS ?_; rotate_left 1; (focus (have z0 := hSw.cell p0; have z1 := hSw.cell p1; go_simp; try with_reducible rfl)); simp only [Act.put, List.setIfInBounds_toArray, List.set_cons_zero, List.set_cons_succ])
                    | (refine wpAnyHIn_take 1 (v := ?_) rfl (by kernel_rfl) (by kernel_rfl) (by kernel_rfl) (by decide +kernel) (fun _ _ _ h => h) (fun _ _ _ => trivial) (by rfl) (fun w' hSw => ?_) hS ?_; rotate_left 1; (focus (have z0 := hSw.cell p0; have z1 := hSw.cell p1; go_simp; try with_reducible rfl)); simp only [Act.put, List.setIfInBounds_toArray, List.set_cons_zero, List.set_cons_succ])
                    | (refine wpAnyHIn_take 3 (v := ?_) rfl (by kernel_rfl) (by kernel_rfl) (by kernel_rfl) (by decide +kernel) (fun _ _ _ h => h) (fun _ _ _ => trivial) (by rfl) (fun w' hSw => ?_) hS ?_; rotate_left 1; (focus (have z0 := hSw.cell p0; have z1 := hSw.cell p1; go_simp; try with_reducible rfl)); simp only [Act.put, List.setIfInBounds_toArray, List.set_cons_zero, List.set_cons_succ])
                    | (refine wpAnyHIn_take 4 (v := ?_) rfl (by kernel_rfl) (by kernel_rfl) (by kernel_rfl) (by decide +kernel) (fun _ _ _ h => h) (fun _ _ _ => trivial) (by rfl) (fun w' hSw => ?_) hS ?_; rotate_left 1; (focus (have z0 := hSw.cell p0; have z1 := hSw.cell p1; go_simp; try with_reducible rfl)); simp only [Act.put, List.setIfInBounds_toArray, List.set_cons_zero, List.set_cons_succ]))
                  refine wpAnyHIn_ready [2] (by kernel_rfl) (by simp) ?_
                  refine AllHIn.cons rfl (by rfl) (fun K hK => ?_) AllHIn.nil
                  go_simp
                  refine ⟨trivial, ?_⟩
                  refine (callsIn_wide.2 (HNk.out _ (GI.out.trans hS))).mono ?_
                  rintro e wX ⟨rfl, gX⟩
                  have hS : Gr wr wX := hS.trans gX
                  refine hK.out _ _ hS ?_
                  clear hK K gX
                  refine wpAnyHIn_ready [5] (by kernel_rfl) (by simp) ?_
                  refine AllHIn.cons rfl (by rfl) (fun K hK => ?_) AllHIn.nil
                  go_simp
                  refine ⟨trivial, ?_⟩
                  refine (callsIn_wide.2 (HNj.out _ (GI.out.trans hS))).mono ?_
                  rintro e wX ⟨rfl, gX⟩
                  have hS : Gr wr wX := hS.trans gX
                  refine hK.out _ _ hS ?_
                  clear hK K gX
                  iterate 2 (first
                    | (refine wpAnyHIn_take 6 (v := ?_) rfl (by kernel_rfl) (by kernel_rfl) (by kernel_rfl) (by decide +kernel) (fun _ _ _ h => h) (fun _ _ _ => trivial) (by rfl) (fun w' hSw => ?_) hS ?_; rotate_left 1; (focus (skip; go_simp; try with_reducible rfl)); simp only [Act.put, List.setIfInBounds_toArray, List.set_cons_zero, List.set_cons_succ])
                    | (refine wpAnyHIn_take 7 (v := ?_) rfl (by kernel_rfl) (by kernel_rfl) (by kernel_rfl) (by decide +kernel) (fun _ _ _ h => h) (fun _ _ _ => trivial) (by rfl) (fun w' hSw => ?_) hS ?_; rotate_left 1; (focus (skip; go_simp; try with_reducible rfl)); simp only [Act.put, List.setIfInBounds_toArray, List.set_cons_zero, List.set_cons_succ]))
                  refine wpAnyHIn_done (by kernel_rfl) ?_ _
                  have GL := Lib.hid hS
                  clear hS
                  clear p0 p1
                  obtain ⟨p0, p1⟩ := BX.out.gr (GI.out.trans GL.out)
                  go_wp2_with (first
                    | (go_at_call 84; (with_reducible refine (HAjk.out _ (GI.out.trans GL.out)).mono ?_); rintro e wL ⟨rfl, gL⟩; have GL := Lib.hid (GL.out.trans gL); clear gL; clear p0 p1; obtain ⟨p0, p1⟩ := BX.out.gr (GI.out.trans GL.out))
                    | (go_at_call 84; (with_reducible refine (HAkj.out _ (GI.out.trans GL.out)).mono ?_); rintro e wL ⟨rfl, gL⟩; have GL := Lib.hid (GL.out.trans gL); clear gL; clear p0 p1; obtain ⟨p0, p1⟩ := BX.out.gr (GI.out.trans GL.out)))
                  go_roundw
                  case rel => exact ⟨j + 1, hj, by go_num, by rw [EQ.out]; go_num, Lib.hid (GJ.out.trans GL.out)⟩
                  case measure => simp [intOf]; omega
                · rw [hx] at HNk
                  rw [hy] at HNj
                  rw [decide_eq_false h1] at HAjk
                  rw [decide_eq_false h2] at HAkj
                  have h4 : ¬ (j : Int) < (k : Int) := by omega
                  have EQ := Lib.hid (show cntP (fun b => refB f g k b) (j + 1) = cp by rw [EP.out, refB_F HF.out HG.out (hx.trans hy.symm) h1 h2 h3]; rfl)
                  clear EP
                  go_wp2_with fail
                  refine (wpIn_wide (n := 3)).1 ?_
                  refine wpIn_region_held (fun w' => Gr wr w') 8 (by kernel_rfl) rfl rfl ?_
                  have hS : Gr wr wr.drew := (Gr.refl wr).drew
                  iterate 4 (first
                    | (refine wpAnyHIn_take 0 (v := ?_) rfl (by kernel_rfl) (by kernel_rfl) (by kernel_rfl) (by decide +kernel) (fun _ _ _ h => h) (fun _ _ _ => trivial) (by rfl) (fun w' hSw => ?_) hS ?_; rotate_left 1; (focus (have z0 := hSw.cell p0; have z1 := hSw.cell p1; go_simp; try with_reducible rfl)); simp only [Act.put, List.setIfInBounds_toArray, List.set_cons_zero, List.set_cons_succ])
                    | (refine wpAnyHIn_take 1 (v := ?_) rfl (by kernel_rfl) (by kernel_rfl) (by kernel_rfl) (by decide +kernel) (fun _ _ _ h => h) (fun _ _ _ => trivial) (by rfl) (fun w' hSw => ?_) hS ?_; rotate_left 1; (focus (have z0 := hSw.cell p0; have z1 := hSw.cell p1; go_simp; try with_reducible rfl)); simp only [Act.put, List.setIfInBounds_toArray, List.set_cons_zero, List.set_cons_succ])
                    | (refine wpAnyHIn_take 3 (v := ?_) rfl (by kernel_rfl) (by kernel_rfl) (by kernel_rfl) (by decide +kernel) (fun _ _ _ h => h) (fun _ _ _ => trivial) (by rfl) (fun w' hSw => ?_) hS ?_; rotate_left 1; (focus (have z0 := hSw.cell p0; have z1 := hSw.cell p1; go_simp; try with_reducible rfl)); simp only [Act.put, List.setIfInBounds_toArray, List.set_cons_zero, List.set_cons_succ])
                    | (refine wpAnyHIn_take 4 (v := ?_) rfl (by kernel_rfl) (by kernel_rfl) (by kernel_rfl) (by decide +kernel) (fun _ _ _ h => h) (fun _ _ _ => trivial) (by rfl) (fun w' hSw => ?_) hS ?_; rotate_left 1; (focus (have z0 := hSw.cell p0; have z1 := hSw.cell p1; go_simp; try with_reducible rfl)); simp only [Act.put, List.setIfInBounds_toArray, List.set_cons_zero, List.set_cons_succ]))
                  refine wpAnyHIn_ready [2] (by kernel_rfl) (by simp) ?_
                  refine AllHIn.cons rfl (by rfl) (fun K hK => ?_) AllHIn.nil
                  go_simp
                  refine ⟨trivial, ?_⟩
                  refine (callsIn_wide.2 (HNk.out _ (GI.out.trans hS))).mono ?_
                  rintro e wX ⟨rfl, gX⟩
                  have hS : Gr wr wX := hS.trans gX
                  refine hK.out _ _ hS ?_
                  clear hK K gX
                  refine wpAnyHIn_ready [5] (by kernel_rfl) (by simp) ?_
                  refine AllHIn.cons rfl (by rfl) (fun K hK => ?_) AllHIn.nil
                  go_simp
                  refine ⟨trivial, ?_⟩
                  refine (callsIn_wide.2 (HNj.out _ (GI.out.trans hS))).mono ?_
                  rintro e wX ⟨rfl, gX⟩
                  have hS : Gr wr wX := hS.trans gX
                  refine hK.out _ _ hS ?_
                  clear hK K gX
                  iterate 2 (first
                    | (refine wpAnyHIn_take 6 (v := ?_) rfl (by kernel_rfl) (by kernel_rfl) (by kernel_rfl) (by decide +kernel) (fun _ _ _ h => h) (fun _ _ _ => trivial) (by rfl) (fun w' hSw => ?_) hS ?_; rotate_left 1; (focus (skip; go_simp; try with_reducible rfl)); simp only [Act.put, List.setIfInBounds_toArray, List.set_cons_zero, List.set_cons_succ])
                    | (refine wpAnyHIn_take 7 (v := ?_) rfl (by kernel_rfl) (by kernel_rfl) (by kernel_rfl) (by decide +kernel) (fun _ _ _ h => h) (fun _ _ _ => trivial) (by rfl) (fun w' hSw => ?_) hS ?_; rotate_left 1; (focus (skip; go_simp; try with_reducible rfl)); simp only [Act.put, List.setIfInBounds_toArray, List.set_cons_zero, List.set_cons_succ]))
                  refine wpAnyHIn_done (by kernel_rfl) ?_ _
                  have GL := Lib.hid hS
                  clear hS
                  clear p0 p1
                  obtain ⟨p0, p1⟩ := BX.out.gr (GI.out.trans GL.out)
                  go_wp2_with (first
                    | (go_at_call 84; (with_reducible refine (HAjk.out _ (GI.out.trans GL.out)).mono ?_); rintro e wL ⟨rfl, gL⟩; have GL := Lib.hid (GL.out.trans gL); clear gL; clear p0 p1; obtain ⟨p0, p1⟩ := BX.out.gr (GI.out.trans GL.out))
                    | (go_at_call 84; (with_reducible refine (HAkj.out _ (GI.out.trans GL.out)).mono ?_); rintro e wL ⟨rfl, gL⟩; have GL := Lib.hid (GL.out.trans gL); clear gL; clear p0 p1; obtain ⟨p0, p1⟩ := BX.out.gr (GI.out.trans GL.out)))
                  go_roundw
                  case rel => exact ⟨j + 1, hj, by go_num, by rw [EQ.out], Lib.hid (GJ.out.trans GL.out)⟩
                  case measure => simp [intOf]; omega
          · rw [hx] at HNk
            rw [hy] at HNj
            have EQ := Lib.hid (show cntP (fun b => refB f g k b) (j + 1) = cp by rw [EP.out, refB_B HF.out HG.out hx hy]; rfl)
            clear EP HAjk HAkj
            go_wp2_with fail
            refine (wpIn_wide (n := 3)).1 ?_
            refine wpIn_region_held (fun w' => Gr wr w') 8 (by kernel_rfl) rfl rfl ?_
            have hS : Gr wr wr.drew := (Gr.refl wr).drew
            iterate 4 (first
              | (refine wpAnyHIn_take 0 (v := ?_) rfl (by kernel_rfl) (by kernel_rfl) (by kernel_rfl) (by decide +kernel) (fun _ _ _ h => h) (fun _ _ _ => trivial) (by rfl) (fun w' hSw => ?_) hS ?_; rotate_left 1; (focus (have z0 := hSw.cell p0; have z1 := hSw.cell p1; go_simp; try with_reducible rfl)); simp only [Act.put, List.setIfInBounds_toArray, List.set_cons_zero, List.set_cons_succ])
              | (refine wpAnyHIn_take 1 (v := ?_) rfl (by kernel_rfl) (by kernel_rfl) (by kernel_rfl) (by decide +kernel) (fun _ _ _ h => h) (fun _ _ _ => trivial) (by rfl) (fun w' hSw => ?_) hS ?_; rotate_left 1; (focus (have z0 := hSw.cell p0; have z1 := hSw.cell p1; go_simp; try with_reducible rfl)); simp only [Act.put, List.setIfInBounds_toArray, List.set_cons_zero, List.set_cons_succ])
              | (refine wpAnyHIn_take 3 (v := ?_) rfl (by kernel_rfl) (by kernel_rfl) (by kernel_rfl) (by decide +kernel) (fun _ _ _ h => h) (fun _ _ _ => trivial) (by rfl) (fun w' hSw => ?_) hS ?_; rotate_left 1; (focus (have z0 := hSw.cell p0; have z1 := hSw.cell p1; go_simp; try with_reducible rfl)); simp only [Act.put, List.setIfInBounds_toArray, List.set_cons_zero, List.set_cons_succ])
              | (refine wpAnyHIn_take 4 (v := ?_) rfl (by kernel_rfl) (by kernel_rfl) (by kernel_rfl) (by decide +kernel) (fun _ _ _ h => h) (fun _ _ _ => trivial) (by rfl) (fun w' hSw => ?_) hS ?_; rotate_left 1; (focus (have z0 := hSw.cell p0; have z1 := hSw.cell p1; go_simp; try with_reducible rfl)); simp only [Act.put, List.setIfInBounds_toArray, List.set_cons_zero, List.set_cons_succ]))
            refine wpAnyHIn_ready [2] (by kernel_rfl) (by simp) ?_
            refine AllHIn.cons rfl (by rfl) (fun K hK => ?_) AllHIn.nil
            go_simp
            refine ⟨trivial, ?_⟩
            refine (callsIn_wide.2 (HNk.out _ (GI.out.trans hS))).mono ?_
            rintro e wX ⟨rfl, gX⟩
            have hS : Gr wr wX := hS.trans gX
            refine hK.out _ _ hS ?_
            clear hK K gX
            refine wpAnyHIn_ready [5] (by kernel_rfl) (by simp) ?_
            refine AllHIn.cons rfl (by rfl) (fun K hK => ?_) AllHIn.nil
            go_simp
            refine ⟨trivial, ?_⟩
            refine (callsIn_wide.2 (HNj.out _ (GI.out.trans hS))).mono ?_
            rintro e wX ⟨rfl, gX⟩
            have hS : Gr wr wX := hS.trans gX
            refine hK.out _ _ hS ?_
            clear hK K gX
            iterate 2 (first
              | (refine wpAnyHIn_take 6 (v := ?_) rfl (by kernel_rfl) (by kernel_rfl) (by kernel_rfl) (by decide +kernel) (fun _ _ _ h => h) (fun _ _ _ => trivial) (by rfl) (fun w' hSw => ?_) hS ?_; rotate_left 1; (focus (skip; go_simp; try with_reducible rfl)); simp only [Act.put, List.setIfInBounds_toArray, List.set_cons_zero, List.set_cons_succ])
              | (refine wpAnyHIn_take 7 (v := ?_) rfl (by kernel_rfl) (by kernel_rfl) (by kernel_rfl) (by decide +kernel) (fun _ _ _ h => h) (fun _ _ _ => trivial) (by rfl) (fun w' hSw => ?_) hS ?_; rotate_left 1; (focus (skip; go_simp; try with_reducible rfl)); simp only [Act.put, List.setIfInBounds_toArray, List.set_cons_zero, List.set_cons_succ]))
            refine wpAnyHIn_done (by kernel_rfl) ?_ _
            have GL := Lib.hid hS
            clear hS
            clear p0 p1
            obtain ⟨p0, p1⟩ := BX.out.gr (GI.out.trans GL.out)
            go_wp2_with (first
              | (go_at_call 83; (with_reducible refine (HNk.out _ (GI.out.trans GL.out)).mono ?_); rintro e wL ⟨rfl, gL⟩; have GL := Lib.hid (GL.out.trans gL); clear gL; clear p0 p1; obtain ⟨p0, p1⟩ := BX.out.gr (GI.out.trans GL.out)))
            go_roundw
            case rel => exact ⟨j + 1, hj, by go_num, by rw [EQ.out], Lib.hid (GJ.out.trans GL.out)⟩
            case measure => simp [intOf]; omega
          · rw [hx] at HNk
            rw [hy] at HNj
            have EQ := Lib.hid (show cntP (fun b => refB f g k b) (j + 1) = cp + 1 by rw [EP.out, refB_A HF.out HG.out hx hy]; rfl)
            clear EP HAjk HAkj
            go_wp2_with fail
            refine (wpIn_wide (n := 3)).1 ?_
            refine wpIn_region_held (fun w' => Gr wr w') 8 (by kernel_rfl) rfl rfl ?_
            have hS : Gr wr wr.drew := (Gr.refl wr).drew
            iterate 4 (first
              | (refine wpAnyHIn_take 0 (v := ?_) rfl (by kernel_rfl) (by kernel_rfl) (by kernel_rfl) (by decide +kernel) (fun _ _ _ h => h) (fun _ _ _ => trivial) (by rfl) (fun w' hSw => ?_) hS ?_; rotate_left 1; (focus (have z0 := hSw.cell p0; have z1 := hSw.cell p1; go_simp; try with_reducible rfl)); simp only [Act.put, List.setIfInBounds_toArray, List.set_cons_zero, List.set_cons_succ])
              | (refine wpAnyHIn_take 1 (v := ?_) rfl (by kernel_rfl) (by kernel_rfl) (by kernel_rfl) (by decide +kernel) (fun _ _ _ h => h) (fun _ _ _ => trivial) (by rfl) (fun w' hSw => ?_) hS ?_; rotate_left 1; (focus (have z0 := hSw.cell p0; have z1 := hSw.cell p1; go_simp; try with_reducible rfl)); simp only [Act.put, List.setIfInBounds_toArray, List.set_cons_zero, List.set_cons_succ])
              | (refine wpAnyHIn_take 3 (v := ?_) rfl (by kernel_rfl) (by kernel_rfl) (by kernel_rfl) (by decide +kernel) (fun _ _ _ h => h) (fun _ _ _ => trivial) (by rfl) (fun w' hSw => ?_) hS ?_; rotate_left 1; (focus (have z0 := hSw.cell p0; have z1 := hSw.cell p1; go_simp; try with_reducible rfl)); simp only [Act.put, List.setIfInBounds_toArray, List.set_cons_zero, List.set_cons_succ])
              | (refine wpAnyHIn_take 4 (v := ?_) rfl (by kernel_rfl) (by kernel_rfl) (by kernel_rfl) (by decide +kernel) (fun _ _ _ h => h) (fun _ _ _ => trivial) (by rfl) (fun w' hSw => ?_) hS ?_; rotate_left 1; (focus (have z0 := hSw.cell p0; have z1 := hSw.cell p1; go_simp; try with_reducible rfl)); simp only [Act.put, List.setIfInBounds_toArray, List.set_cons_zero, List.set_cons_succ]))
            refine wpAnyHIn_ready [2] (by kernel_rfl) (by simp) ?_
            refine AllHIn.cons rfl (by rfl) (fun K hK => ?_) AllHIn.nil
            go_simp
            refine ⟨trivial, ?_⟩
            refine (callsIn_wide.2 (HNk.out _ (GI.out.trans hS))).mono ?_
            rintro e wX ⟨rfl, gX⟩
            have hS : Gr wr wX := hS.trans gX
            refine hK.out _ _ hS ?_
            clear hK K gX
            refine wpAnyHIn_ready [5] (by kernel_rfl) (by simp) ?_
            refine AllHIn.cons rfl (by rfl) (fun K hK => ?_) AllHIn.nil
            go_simp
            refine ⟨trivial, ?_⟩
            refine (callsIn_wide.2 (HNj.out _ (GI.out.trans hS))).mono ?_
            rintro e wX ⟨rfl, gX⟩
            have hS : Gr wr wX := hS.trans gX
            refine hK.out _ _ hS ?_
            clear hK K gX
            iterate 2 (first
              | (refine wpAnyHIn_take 6 (v := ?_) rfl (by kernel_rfl) (by kernel_rfl) (by kernel_rfl) (by decide +kernel) (fun _ _ _ h => h) (fun _ _ _ => trivial) (by rfl) (fun w' hSw => ?_) hS ?_; rotate_left 1; (focus (skip; go_simp; try with_reducible rfl)); simp only [Act.put, List.setIfInBounds_toArray, List.set_cons_zero, List.set_cons_succ])
              | (refine wpAnyHIn_take 7 (v := ?_) rfl (by kernel_rfl) (by kernel_rfl) (by kernel_rfl) (by decide +kernel) (fun _ _ _ h => h) (fun _ _ _ => trivial) (by rfl) (fun w' hSw => ?_) hS ?_; rotate_left 1; (focus (skip; go_simp; try with_reducible rfl)); simp only [Act.put, List.setIfInBounds_toArray, List.set_cons_zero, List.set_cons_succ]))
            refine wpAnyHIn_done (by kernel_rfl) ?_ _
            have GL := Lib.hid hS
            clear hS
            clear p0 p1
            obtain ⟨p0, p1⟩ := BX.out.gr (GI.out.trans GL.out)
            go_wp2_with (first
              | (go_at_call 83; (with_reducible refine (HNk.out _ (GI.out.trans GL.out)).mono ?_); rintro e wL ⟨rfl, gL⟩; have GL := Lib.hid (GL.out.trans gL); clear gL; clear p0 p1; obtain ⟨p0, p1⟩ := BX.out.gr (GI.out.trans GL.out)))
            go_roundw
            case rel => exact ⟨j + 1, hj, by go_num, by rw [EQ.out]; go_num, Lib.hid (GJ.out.trans GL.out)⟩
            case measure => simp [intOf]; omega
          · by_cases h1 : 0 < crs f g j k
            · rw [hx] at HNk
              rw [hy] at HNj
              rw [decide_eq_true h1] at HAjk
              have EQ := Lib.hid (show cntP (fun b => refB f g k b) (j + 1) = cp + 1 by rw [EP.out, refB_C HF.out HG.out (hx.trans hy.symm) h1]; rfl)
              clear EP
              clear HAkj
              go_wp2_with fail
              refine (wpIn_wide (n := 3)).1 ?_
              refine wpIn_region_held (fun w' => Gr wr w') 8 (by kernel_rfl) rfl rfl ?_
              have hS : Gr wr wr.drew := (Gr.refl wr).drew
              iterate 4 (first
                | (refine wpAnyHIn_take 0 (v := ?_) rfl (by kernel_rfl) (by kernel_rfl) (by kernel_rfl) (by decide +kernel) (fun _ _ _ h => h) (fun _ _ _ => trivial) (by rfl) (fun w' hSw => ?_) hS ?_; rotate_left 1; (focus (have z0 := hSw.cell p0; have z1 := hSw.cell p1; go_simp; try with_reducible rfl)); simp only [Act.put, List.setIfInBounds_toArray, List.set_cons_zero, List.set_cons_succ])
                | (refine wpAnyHIn_take 1 (v := ?_) rfl (by kernel_rfl) (by kernel_rfl) (by kernel_rfl) (by decide +kernel) (fun _ _ _ h => h) (fun _ _ _ => trivial) (by rfl) (fun w' hSw => ?_) hS ?_; rotate_left 1; (focus (have z0 := hSw.cell p0; have z1 := hSw.cell p1; go_simp; try with_reducible rfl)); simp only [Act.put, List.setIfInBounds_toArray, List.set_cons_zero, List.set_cons_succ])
                | (refine wpAnyHIn_take 3 (v := ?_) rfl (by kernel_rfl) (by kernel_rfl) (by kernel_rfl) (by decide +kernel) (fun _ _ _ h => h) (fun _ _ _ => trivial) (by rfl) (fun w' hSw => ?_) hS ?_; rotate_left 1; (focus (have z0 := hSw.cell p0; have z1 := hSw.cell p1; go_simp; try with_reducible rfl)); simp only [Act.put, List.setIfInBounds_toArray, List.set_cons_zero, List.set_cons_succ])
                | (refine wpAnyHIn_take 4 (v := ?_) rfl (by kernel_rfl) (by kernel_rfl) (by kernel_rfl) (by decide +kernel) (fun _ _ _ h => h) (fun _ _ _ => trivial) (by rfl) (fun w' hSw => ?_) hS ?_; rotate_left 1; (focus (have z0 := hSw.cell p0; have z1 := hSw.cell p1; go_simp; try with_reducible rfl)); simp only [Act.put, List.setIfInBounds_toArray, List.set_cons_zero, List.set_cons_succ]))
              refine wpAnyHIn_ready [2] (by kernel_rfl) (by simp) ?_
              refine AllHIn.cons rfl (by rfl) (fun K hK => ?_) AllHIn.nil
              go_simp
              refine ⟨trivial, ?_⟩
              refine (callsIn_wide.2 (HNk.out _ (GI.out.trans hS))).mono ?_
              rintro e wX ⟨rfl, gX⟩
              have hS : Gr wr wX := hS.trans gX
              refine hK.out _ _ hS ?_
              clear hK K gX
              refine wpAnyHIn_ready [5] (by kernel_rfl) (by simp) ?_
              refine AllHIn.cons rfl (by rfl) (fun K hK => ?_) AllHIn.nil
              go_simp
              refine ⟨trivial, ?_⟩
              refine (callsIn_wide.2 (HNj.out _ (GI.out.trans hS))).mono ?_
              rintro e wX ⟨rfl, gX⟩
              have hS : Gr wr wX := hS.trans gX
              refine hK.out _ _ hS ?_
              clear hK K gX
              iterate 2 (first
                | (refine wpAnyHIn_take 6 (v := ?_) rfl (by kernel_rfl) (by kernel_rfl) (by kernel_rfl) (by decide +kernel) (fun _ _ _ h => h) (fun _ _ _ => trivial) (by rfl) (fun w' hSw => ?_) hS ?_; rotate_left 1; (focus (skip; go_simp; try with_reducible rfl)); simp only [Act.put, List.setIfInBounds_toArray, List.set_cons_zero, List.set_cons_succ])
                | (refine wpAnyHIn_take 7 (v := ?_) rfl (by kernel_rfl) (by kernel_rfl) (by kernel_rfl) (by decide +kernel) (fun _ _ _ h => h) (fun _ _ _ => trivial) (by rfl) (fun w' hSw => ?_) hS ?_; rotate_left 1; (focus (skip; go_simp; try with_reducible rfl)); simp only [Act.put, List.setIfInBounds_toArray, List.set_cons_zero, List.set_cons_succ]))
              refine wpAnyHIn_done (by kernel_rfl) ?_ _
              have GL := Lib.hid hS
              clear hS
              clear p0 p1
              obtain ⟨p0, p1⟩ := BX.out.gr (GI.out.trans GL.out)
              go_wp2_with (first
                | (go_at_call 84; (with_reducible refine (HAjk.out _ (GI.out.trans GL.out)).mono ?_); rintro e wL ⟨rfl, gL⟩; have GL := Lib.hid (GL.out.trans gL); clear gL; clear p0 p1; obtain ⟨p0, p1⟩ := BX.out.gr (GI.out.trans GL.out)))
              go_roundw
              case rel => exact ⟨j + 1, hj, by go_num, by rw [EQ.out]; go_num, Lib.hid (GJ.out.trans GL.out)⟩
              case measure => simp [intOf]; omega
            · by_cases h2 : 0 < crs f g k j
              · rw [hx] at HNk
                rw [hy] at HNj
                rw [decide_eq_false h1] at HAjk
                rw [decide_eq_true h2] at HAkj
                have EQ := Lib.hid (show cntP (fun b => refB f g k b) (j + 1) = cp by rw [EP.out, refB_D HF.out HG.out (hx.trans hy.symm) h1 h2]; rfl)
                clear EP
                go_wp2_with fail
                refine (wpIn_wide (n := 3)).1 ?_
                refine wpIn_region_held (fun w' => Gr wr w') 8 (by kernel_rfl) rfl rfl ?_
                have hS : Gr wr wr.drew := (Gr.refl wr).drew
                iterate 4 (first
                  | (refine wpAnyHIn_take 0 (v := ?_) rfl (by kernel_rfl) (by kernel_rfl) (by kernel_rfl) (by decide +kernel) (fun _ _ _ h => h) (fun _ _ _ => trivial) (by rfl) (fun w' hSw => ?_) hS ?_; rotate_left 1; (focus (have z0 := hSw.cell p0; have z1 := hSw.cell p1; go_simp; try with_reducible rfl)); simp only [Act.put, List.setIfInBounds_toArray, List.set_cons_zero, List.set_cons_succ])
                  | (refine wpAnyHIn_take 1 (v := ?_) rfl (by kernel_rfl) (by kernel_rfl) (by kernel_rfl) (by decide +kernel) (fun _ _ _ h => h) (fun _ _ _ => trivial) (by rfl) (fun w' hSw => ?_) hS ?_; rotate_left 1; (focus (have z0 := hSw.cell p0; have z1 := hSw.cell p1; go_simp; try with_reducible rfl)); simp only [Act.put, List.setIfInBounds_toArray, List.set_cons_zero, List.set_cons_succ])
                  | (refine wpAnyHIn_take 3 (v := ?_) rfl (by kernel_rfl) (by kernel_rfl) (by kernel_rfl) (by decide +kernel) (fun _ _ _ h => h) (fun _ _ _ => trivial) (by rfl) (fun w' hSw => ?_) hS ?_; rotate_left 1; (focus (have z0 := hSw.cell p0; have z1 := hSw.cell p1; go_simp; try with_reducible rfl)); simp only [Act.put, List.setIfInBounds_toArray, List.set_cons_zero, List.set_cons_succ])
                  | (refine wpAnyHIn_take 4 (v := ?_) rfl (by kernel_rfl) (by kernel_rfl) (by kernel_rfl) (by decide +kernel) (fun _ _ _ h => h) (fun _ _ _ => trivial) (by rfl) (fun w' hSw => ?_) hS ?_; rotate_left 1; (focus (have z0 := hSw.cell p0; have z1 := hSw.cell p1; go_simp; try with_reducible rfl)); simp only [Act.put, List.setIfInBounds_toArray, List.set_cons_zero, List.set_cons_succ]))
                refine wpAnyHIn_ready [2] (by kernel_rfl) (by simp) ?_
                refine AllHIn.cons rfl (by rfl) (fun K hK => ?_) AllHIn.nil
                go_simp
                refine ⟨trivial, ?_⟩
                refine (callsIn_wide.2 (HNk.out _ (GI.out.trans hS))).mono ?_
                rintro e wX ⟨rfl, gX⟩
                have hS : Gr wr wX := hS.trans gX
                refine hK.out _ _ hS ?_
                clear hK K gX
                refine wpAnyHIn_ready [5] (by kernel_rfl) (by simp) ?_
                refine AllHIn.cons rfl (by rfl) (fun K hK => ?_) AllHIn.nil
                go_simp
                refine ⟨trivial, ?_⟩
                refine (callsIn_wide.2 (HNj.out _ (GI.out.trans hS))).mono ?_
                rintro e wX ⟨rfl, gX⟩
                have hS : Gr wr wX := hS.trans gX
                refine hK.out _ _ hS ?_
                clear hK K gX
                iterate 2 (first
                  | (refine wpAnyHIn_take 6 (v := ?_) rfl (by kernel_rfl) (by kernel_rfl) (by kernel_rfl) (by decide +kernel) (fun _ _ _ h => h) (fun _ _ _ => trivial) (by rfl) (fun w' hSw => ?_) hS ?_; rotate_left 1; (focus (skip; go_simp; try with_reducible rfl)); simp only [Act.put, List.setIfInBounds_toArray, List.set_cons_zero, List.set_cons_succ])
                  | (refine wpAnyHIn_take 7 (v := ?_) rfl (by kernel_rfl) (by kernel_rfl) (by kernel_rfl) (by decide +kernel) (fun _ _ _ h => h) (fun _ _ _ => trivial) (by rfl) (fun w' hSw => ?_) hS ?_; rotate_left 1; (focus (skip; go_simp; try with_reducible rfl)); simp only [Act.put, List.setIfInBounds_toArray, List.set_cons_zero, List.set_cons_succ]))
                refine wpAnyHIn_done (by kernel_rfl) ?_ _
                have GL := Lib.hid hS
                clear hS
                clear p0 p1
                obtain ⟨p0, p1⟩ := BX.out.gr (GI.out.trans GL.out)
                go_wp2_with (first
                  | (go_at_call 84; (with_reducible refine (HAjk.out _ (GI.out.trans GL.out)).mono ?_); rintro e wL ⟨rfl, gL⟩; have GL := Lib.hid (GL.out.trans gL); clear gL; clear p0 p1; obtain ⟨p0, p1⟩ := BX.out.gr (GI.out.trans GL.out))
                  | (go_at_call 84; (with_reducible refine (HAkj.out _ (GI.out.trans GL.out)).mono ?_); rintro e wL ⟨rfl, gL⟩; have GL := Lib.hid (GL.out.trans gL); clear gL; clear p0 p1; obtain ⟨p0, p1⟩ := BX.out.gr (GI.out.trans GL.out)))
                go_roundw
                case rel => exact ⟨j + 1, hj, by go_num, by rw [EQ.out], Lib.hid (GJ.out.trans GL.out)⟩
                case measure => simp [intOf]; omega
              · by_cases h3 : j < k
                · rw [hx] at HNk
                  rw [hy] at HNj
                  rw [decide_eq_false h1] at HAjk
                  rw [decide_eq_false h2] at HAkj
                  have h4 : (j : Int) < (k : Int) := by omega
                  have EQ := Lib.hid (show cntP (fun b => refB f g k b) (j + 1) = cp + 1 by rw [EP.out, refB_E HF.out HG.out (hx.trans hy.symm) h1 h2 h3]; rfl)
                  clear EP
                  go_wp2_with fail
                  refine (wpIn_wide (n := 3)).1 ?_
                  refine wpIn_region_held (fun w' => Gr wr w') 8 (by kernel_rfl) rfl rfl ?_
                  have hS : Gr wr wr.drew := (Gr.refl wr).drew
                  iterate 4 (first
                    | (refine wpAnyHIn_take 0 (v := ?_) rfl (by kernel_rfl) (by kernel_rfl) (by kernel_rfl) (by decide +kernel) (fun _ _ _ h => h) (fun _ _ _ => trivial) (by rfl) (fun w' hSw => ?_) hS ?_; rotate_left 1; (focus (have z0 := hSw.cell p0; have z1 := hSw.cell p1; go_simp; try with_reducible rfl)); simp only [Act.put, List.setIfInBounds_toArray, List.set_cons_zero, List.set_cons_succ])
                    | (refine wpAnyHIn_take 1 (v := ?_) rfl (by kernel_rfl) (by kernel_rfl) (by kernel_rfl) (by decide +kernel) (fun _ _ _ h => h) (fun _ _ _ => trivial) (by rfl) (fun w' hSw => ?_) hS ?_; rotate_left 1; (focus (have z0 := hSw.cell p0; have z1 := hSw.cell p1; go_simp; try with_reducible rfl)); simp only [Act.put, List.setIfInBounds_toArray, List.set_cons_zero, List.set_cons_succ])
                    | (refine wpAnyHIn_take 3 (v := ?_) rfl (by kernel_rfl) (by kernel_rfl) (by kernel_rfl) (by decide +kernel) (fun _ _ _ h => h) (fun _ _ _ => trivial) (by rfl) (fun w' hSw => ?_) hS ?_; rotate_left 1; (focus (have z0 := hSw.cell p0; have z1 := hSw.cell p1; go_simp; try with_reducible rfl)); simp only [Act.put, List.setIfInBounds_toArray, List.set_cons_zero, List.set_cons_succ])
                    | (refine wpAnyHIn_take 4 (v := ?_) rfl (by kernel_rfl) (by kernel_rfl) (by kernel_rfl) (by decide +kernel) (fun _ _ _ h => h) (fun _ _ _ => trivial) (by rfl) (fun w' hSw => ?_) hS ?_; rotate_left 1; (focus (have z0 := hSw.cell p0; have z1 := hSw.cell p1; go_simp; try with_reducible rfl)); simp only [Act.put, List.setIfInBounds_toArray, List.set_cons_zero, List.set_cons_succ]))
                  refine wpAnyHIn_ready [2] (by kernel_rfl) (by simp) ?_
                  refine AllHIn.cons rfl (by rfl) (fun K hK => ?_) AllHIn.nil
                  go_simp
                  refine ⟨trivial, ?_⟩
                  refine (callsIn_wide.2 (HNk.out _ (GI.out.trans hS))).mono ?_
                  rintro e wX ⟨rfl, gX⟩
                  have hS : Gr wr wX := hS.trans gX
                  refine hK.out _ _ hS ?_
                  clear hK K gX
                  refine wpAnyHIn_ready [5] (by kernel_rfl) (by simp) ?_
                  refine AllHIn.cons rfl (by rfl) (fun K hK => ?_) AllHIn.nil
                  go_simp
                  refine ⟨trivial, ?_⟩
                  refine (callsIn_wide.2 (HNj.out _ (GI.out.trans hS))).mono ?_
                  rintro e wX ⟨rfl, gX⟩
                  have hS : Gr wr wX := hS.trans gX
                  refine hK.out _ _ hS ?_
                  clear hK K gX
                  iterate 2 (first
                    | (refine wpAnyHIn_take 6 (v := ?_) rfl (by kernel_rfl) (by kernel_rfl) (by kernel_rfl) (by decide +kernel) (fun _ _ _ h => h) (fun _ _ _ => trivial) (by rfl) (fun w' hSw => ?_) hS ?_; rotate_left 1; (focus (skip; go_simp; try with_reducible rfl)); simp only [Act.put, List.setIfInBounds_toArray, List.set_cons_zero, List.set_cons_succ])
                    | (refine wpAnyHIn_take 7 (v := ?_) rfl (by kernel_rfl) (by kernel_rfl) (by kernel_rfl) (by decide +kernel) (fun _ _ _ h => h) (fun _ _ _ => trivial) (by rfl) (fun w' hSw => ?_) hS ?_; rotate_left 1; (focus (skip; go_simp; try with_reducible rfl)); simp only [Act.put, List.setIfInBounds_toArray, List.set_cons_zero, List.set_cons_succ]))
                  refine wpAnyHIn_done (by kernel_rfl) ?_ _
                  have GL := Lib.hid hS
                  clear hS
                  clear p0 p1
                  obtain ⟨p0, p1⟩ := BX.out.gr (GI.out.trans GL.out)
                  go_wp2_with (first
                    | (go_at_call 84; (with_reducible refine (HAjk.out _ (GI.out.trans GL.out)).mono ?_); rintro e wL ⟨rfl, gL⟩; have GL := Lib.hid (GL.out.trans gL); clear gL; clear p0 p1; obtain ⟨p0, p1⟩ := BX.out.gr (GI.out.trans GL.out))
                    | (go_at_call 84; (with_reducible refine (HAkj.out _ (GI.out.trans GL.out)).mono ?_); rintro e wL ⟨rfl, gL⟩; have GL := Lib.hid (GL.out.trans gL); clear gL; clear p0 p1; obtain ⟨p0, p1⟩ := BX.out.gr (GI.out.trans GL.out)))
                  go_roundw
                  case rel => exact ⟨j + 1, hj, by go_num, by rw [EQ.out]; go_num, Lib.hid (GJ.out.trans GL.out)⟩
                  case measure => simp [intOf]; omega
                · rw [hx] at HNk
                  rw [hy] at HNj
                  rw [decide_eq_false h1] at HAjk
                  rw [decide_eq_false h2] at HAkj
                  have h4 : ¬ (j : Int) < (k : Int) := by omega
                  have EQ := Lib.hid (show cntP (fun b => refB f g k b) (j + 1) = cp by rw [EP.out, refB_F HF.out HG.out (hx.trans hy.symm) h1 h2 h3]; rfl)
                  clear EP
                  go_wp2_with fail
                  refine (wpIn_wide (n := 3)).1 ?_
                  refine wpIn_region_held (fun w' => Gr wr w') 8 (by kernel_rfl) rfl rfl ?_
                  have hS : Gr wr wr.drew := (Gr.refl wr).drew
                  iterate 4 (first
                    | (refine wpAnyHIn_take 0 (v := ?_) rfl (by kernel_rfl) (by kernel_rfl) (by kernel_rfl) (by decide +kernel) (fun _ _ _ h => h) (fun _ _ _ => trivial) (by rfl) (fun w' hSw => ?_) hS ?_; rotate_left 1; (focus (have z0 := hSw.cell p0; have z1 := hSw.cell p1; go_simp; try with_reducible rfl)); simp only [Act.put, List.setIfInBounds_toArray, List.set_cons_zero, List.set_cons_succ])
                    | (refine wpAnyHIn_take 1 (v := ?_) rfl (by kernel_rfl) (by kernel_rfl) (by kernel_rfl) (by decide +kernel) (fun _ _ _ h => h) (fun _ _ _ => trivial) (by rfl) (fun w' hSw => ?_) hS ?_; rotate_left 1; (focus (have z0 := hSw.cell p0; have z1 := hSw.cell p1; go_simp; try with_reducible rfl)); simp only [Act.put, List.setIfInBounds_toArray, List.set_cons_zero, List.set_cons_succ])
                    | (refine wpAnyHIn_take 3 (v := ?_) rfl (by kernel_rfl) (by kernel_rfl) (by kernel_rfl) (by decide +kernel) (fun _ _ _ h => h) (fun _ _ _ => trivial) (by rfl) (fun w' hSw => ?_) hS ?_; rotate_left 1; (focus (have z0 := hSw.cell p0; have z1 := hSw.cell p1; go_simp; try with_reducible rfl)); simp only [Act.put, List.setIfInBounds_toArray, List.set_cons_zero, List.set_cons_succ])
                    | (refine wpAnyHIn_take 4 (v := ?_) rfl (by kernel_rfl) (by kernel_rfl) (by kernel_rfl) (by decide +kernel) (fun _ _ _ h => h) (fun _ _ _ => trivial) (by rfl) (fun w' hSw => ?_) hS ?_; rotate_left 1; (focus (have z0 := hSw.cell p0; have z1 := hSw.cell p1; go_simp; try with_reducible rfl)); simp only [Act.put, List.setIfInBounds_toArray, List.set_cons_zero, List.set_cons_succ]))
                  refine wpAnyHIn_ready [2] (by kernel_rfl) (by simp) ?_
                  refine AllHIn.cons rfl (by rfl) (fun K hK => ?_) AllHIn.nil
                  go_simp
                  refine ⟨trivial, ?_⟩
                  refine (callsIn_wide.2 (HNk.out _ (GI.out.trans hS))).mono ?_
                  rintro e wX ⟨rfl, gX⟩
                  have hS : Gr wr wX := hS.trans gX
                  refine hK.out _ _ hS ?_
                  clear hK K gX
                  refine wpAnyHIn_ready [5] (by kernel_rfl) (by simp) ?_
                  refine AllHIn.cons rfl (by rfl) (fun K hK => ?_) AllHIn.nil
                  go_simp
                  refine ⟨trivial, ?_⟩
                  refine (callsIn_wide.2 (HNj.out _ (GI.out.trans hS))).mono ?_
                  rintro e wX ⟨rfl, gX⟩
                  have hS : Gr wr wX := hS.trans gX
                  refine hK.out _ _ hS ?_
                  clear hK K gX
                  iterate 2 (first
                    | (refine wpAnyHIn_take 6 (v := ?_) rfl (by kernel_rfl) (by kernel_rfl) (by kernel_rfl) (by decide +kernel) (fun _ _ _ h => h) (fun _ _ _ => trivial) (by rfl) (fun w' hSw => ?_) hS ?_; rotate_left 1; (focus (skip; go_simp; try with_reducible rfl)); simp only [Act.put, List.setIfInBounds_toArray, List.set_cons_zero, List.set_cons_succ])
                    | (refine wpAnyHIn_take 7 (v := ?_) rfl (by kernel_rfl) (by kernel_rfl) (by kernel_rfl) (by decide +kernel) (fun _ _ _ h => h) (fun _ _ _ => trivial) (by rfl) (fun w' hSw => ?_) hS ?_; rotate_left 1; (focus (skip; go_simp; try with_reducible rfl)); simp only [Act.put, List.setIfInBounds_toArray, List.set_cons_zero, List.set_cons_succ]))
                  refine wpAnyHIn_done (by kernel_rfl) ?_ _
                  have GL := Lib.hid hS
                  clear hS
                  clear p0 p1
                  obtain ⟨p0, p1⟩ := BX.out.gr (GI.out.trans GL.out)
                  go_wp2_with (first
                    | (go_at_call 84; (with_reducible refine (HAjk.out _ (GI.out.trans GL.out)).mono ?_); rintro e wL ⟨rfl, gL⟩; have GL := Lib.hid (GL.out.trans gL); clear gL; clear p0 p1; obtain ⟨p0, p1⟩ := BX.out.gr (GI.out.trans GL.out))
                    | (go_at_call 84; (with_reducible refine (HAkj.out _ (GI.out.trans GL.out)).mono ?_); rintro e wL ⟨rfl, gL⟩; have GL := Lib.hid (GL.out.trans gL); clear gL; clear p0 p1; obtain ⟨p0, p1⟩ := BX.out.gr (GI.out.trans GL.out)))
                  go_roundw
                  case rel => exact ⟨j + 1, hj, by go_num, by rw [EQ.out], Lib.hid (GJ.out.trans GL.out)⟩
                  case measure => simp [intOf]; omega
        · have hji0 : ¬ (j : Int) < (n : Int) := by omega
          obtain rfl : j = n := by omega
          have pl := HP.out k hlt
          have ep : cntP (fun b => refB f g k b) j = plc f g j k := rfl
          obtain ⟨cc, ff⟩ := HR.out.gr GJ.out _ pl
          have HR2 := (HR.out.gr GJ.out).set (plc f g j k) (k : Int)
          have HR3 := Lib.hid (show RowI (wr.setCell ⟨b0, plc f g j k, none⟩ (.int .i64 (k : Int))) b0 j (U f g j (k + 1)) from fun p hp => HR2 p hp)
          have pli : ((plc f g j k : Nat) : Int) < (j : Int) := by omega
          rw [ep]
          clear HN HNk HA HU HP RW HR2 pl ep hji0
          generalize plc f g j k = q at *
          go_wp2_with fail
          go_roundw
          case rel => exact ⟨k + 1, hlt, by go_num, Lib.hid ((HW.out.trans (Wr.of_gr GJ.out)).set q _), HR3⟩
          case measure => simp [intOf]; omega
    · obtain rfl : k = n := by omega
      go_wp2_with fail
      go_ret
      exact ⟨_, _, rfl, Nat.le_refl _, by unfold maxLen; omega, HR.out.rd.congr (fun i hi => HU.out i hi), G0.out.trans GW.out⟩

end Go.Proofs.YtohcnicadbpbbaaDoor
