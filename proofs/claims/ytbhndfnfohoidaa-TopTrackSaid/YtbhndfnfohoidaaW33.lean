/- Contracts of chapter 5: the two weights that make both sums 0. -/
import Derived.Test.YtbhndfnfohoidaaPE
import Derived.Test.YtbhndfnfohoidaaRhe
import Derived.Test.YtbhndfnfohoidaaWA
import Derived.BigQuiet
namespace Go.Proofs.Ytbhndfnfohoidaa
open Go.RowKit Go.Firn
attribute [local simp] wide_fn

theorem RowW.drew {w : World} {b o n : Nat} {f : Nat → Int} (h : RowW w b o n f) : RowW w.drew b o n f := fun j hj => by simpa using h j hj

set_option maxHeartbeats 4000000 in
set_option maxRecDepth 100000 in
theorem solve_any (b o n c bw ow cw : Nat) (X Y : Nat → Int) (m : Int) (i k : Nat) (f : Nat → Int) (w : World) (hn : n ≤ 12) (hX : ∀ j, j < n → -100 ≤ X j ∧ X j ≤ 100) (hf : ∀ j, j < n → -200 ≤ f j ∧ f j ≤ 200) (hi : i < n) (hk : k < n) (hx : X i ≠ X k)
    (hr : RdM w (some ⟨b, o, none⟩) n X Y) (hw : RowW w bw ow n f) (hne : b ≠ bw) :
    Calls Try.prog 97 #[.agg #[.slice (some ⟨b, o, none⟩) n c, .slice (some ⟨bw, ow, none⟩) n cw, .int .i64 m], .int .i64 i, .int .i64 k] w (fun e w' => e = .returned (.bool (solB n X f m i k)) ∧ Wr bw w w' ∧ RowW w' bw ow n (solF n X f i k)) := by
  obtain ⟨W0, hW0⟩ : ∃ W0, w.alloc (.cells #[.slice (some ⟨b, o, none⟩) n c, .slice (some ⟨bw, ow, none⟩) n cw, .int .i64 m] 112) = W0 := ⟨_, rfl⟩
  have S0 : W0.heap.size = w.heap.size + 1 := by rw [← hW0]; simp
  have GG := Gr.refl (w.alloc (.cells #[.slice (some ⟨b, o, none⟩) n c, .slice (some ⟨bw, ow, none⟩) n cw, .int .i64 m] 112))
  have z0 : W0.cell? ⟨w.heap.size, 0, none⟩ = some (.slice (some ⟨b, o, none⟩) n c) := by rw [← hW0]; exact (GG.fresh' rfl rfl).1
  have z1 : W0.cell? ⟨w.heap.size, 1, none⟩ = some (.slice (some ⟨bw, ow, none⟩) n cw) := by rw [← hW0]; exact (GG.fresh' rfl rfl).1
  have z2 : W0.cell? ⟨w.heap.size, 2, none⟩ = some (.int .i64 m) := by rw [← hW0]; exact (GG.fresh' rfl rfl).1
  have G0 : Gr w W0 := by rw [← hW0]; exact (Gr.refl w).alloc _
  clear GG
  have hr0 := Lib.hid (hr.gr G0)
  have hw0 := hw.gr G0
  have lb : bw < w.heap.size := World.block_lt_of_cell? w _ (hw i hi).1
  have nb : w.heap.size ≠ bw := by omega
  have V0 := Lib.hid (Wr.of_gr (bb := bw) G0)
  have i1 : (i : Int) < n := by omega
  have k1 : (k : Int) < n := by omega
  clear hr hw G0
  obtain ⟨ci, fi⟩ := hw0 i hi
  have hw1 := hw0.set i 0
  obtain ⟨ck, fk⟩ := hw1 k hk
  go_enter Try.func97, Try.ntmps97
  go_wp2_with fail
  clear hW0
  refine (wpIn_wide (n := 3)).1 ?_
  refine wpIn_region_held (fun w' => Wr bw W0 w') 10 (by kernel_rfl) rfl rfl ?_
  have hS : Wr bw W0 W0.drew := (Wr.refl bw W0).drew
  iterate 6 (first
    | (refine wpAnyHIn_take 0 (v := ?_) rfl (by kernel_rfl) (by kernel_rfl) (by kernel_rfl) (by decide +kernel) (fun _ _ _ h => h) (fun _ _ _ => trivial) (by rfl) (fun w' hSw => ?_) hS ?_; rotate_left 1; (focus (have y0 := hSw.cell z0 nb; have y1 := hSw.cell z1 nb; have y2 := hSw.cell z2 nb; go_simp; try with_reducible rfl)); simp only [Act.put, List.setIfInBounds_toArray, List.set_cons_zero, List.set_cons_succ])
    | (refine wpAnyHIn_take 1 (v := ?_) rfl (by kernel_rfl) (by kernel_rfl) (by kernel_rfl) (by decide +kernel) (fun _ _ _ h => h) (fun _ _ _ => trivial) (by rfl) (fun w' hSw => ?_) hS ?_; rotate_left 1; (focus (have y0 := hSw.cell z0 nb; have y1 := hSw.cell z1 nb; have y2 := hSw.cell z2 nb; go_simp; try with_reducible rfl)); simp only [Act.put, List.setIfInBounds_toArray, List.set_cons_zero, List.set_cons_succ])
    | (refine wpAnyHIn_take 2 (v := ?_) rfl (by kernel_rfl) (by kernel_rfl) (by kernel_rfl) (by decide +kernel) (fun _ _ _ h => h) (fun _ _ _ => trivial) (by rfl) (fun w' hSw => ?_) hS ?_; rotate_left 1; (focus (have y0 := hSw.cell z0 nb; have y1 := hSw.cell z1 nb; have y2 := hSw.cell z2 nb; go_simp; try with_reducible rfl)); simp only [Act.put, List.setIfInBounds_toArray, List.set_cons_zero, List.set_cons_succ])
    | (refine wpAnyHIn_take 3 (v := ?_) rfl (by kernel_rfl) (by kernel_rfl) (by kernel_rfl) (by decide +kernel) (fun _ _ _ h => h) (fun _ _ _ => trivial) (by rfl) (fun w' hSw => ?_) hS ?_; rotate_left 1; (focus (have y0 := hSw.cell z0 nb; have y1 := hSw.cell z1 nb; have y2 := hSw.cell z2 nb; go_simp; try with_reducible rfl)); simp only [Act.put, List.setIfInBounds_toArray, List.set_cons_zero, List.set_cons_succ])
    | (refine wpAnyHIn_take 4 (v := ?_) rfl (by kernel_rfl) (by kernel_rfl) (by kernel_rfl) (by decide +kernel) (fun _ _ _ h => h) (fun _ _ _ => trivial) (by rfl) (fun w' hSw => ?_) hS ?_; rotate_left 1; (focus (have y0 := hSw.cell z0 nb; have y1 := hSw.cell z1 nb; have y2 := hSw.cell z2 nb; go_simp; try with_reducible rfl)); simp only [Act.put, List.setIfInBounds_toArray, List.set_cons_zero, List.set_cons_succ])
    | (refine wpAnyHIn_take 5 (v := ?_) rfl (by kernel_rfl) (by kernel_rfl) (by kernel_rfl) (by decide +kernel) (fun _ _ _ h => h) (fun _ _ _ => trivial) (by rfl) (fun w' hSw => ?_) hS ?_; rotate_left 1; (focus (have y0 := hSw.cell z0 nb; have y1 := hSw.cell z1 nb; have y2 := hSw.cell z2 nb; go_simp; try with_reducible rfl)); simp only [Act.put, List.setIfInBounds_toArray, List.set_cons_zero, List.set_cons_succ]))
  iterate 1 (first
    | (refine wpAnyHIn_take 6 (v := ?_) rfl (by kernel_rfl) (by kernel_rfl) (by kernel_rfl) (by decide +kernel) (fun _ _ _ h => h) (fun _ _ _ => trivial) (by rfl) (fun w' hSw => ?_) hS ?_; rotate_left 1; (focus (skip; go_simp; try with_reducible rfl)); simp only [Act.put, List.setIfInBounds_toArray, List.set_cons_zero, List.set_cons_succ]))
  refine wpAnyHIn_ready [7] (by kernel_rfl) (by simp) ?_
  refine AllHIn.cons rfl (by rfl) (fun K hK => ?_) AllHIn.nil
  go_simp
  refine hK.out _ _ (((Wr.refl bw W0).set _ _).drew) ?_
  clear hK K
  iterate 1 (first
    | (refine wpAnyHIn_take 8 (v := ?_) rfl (by kernel_rfl) (by kernel_rfl) (by kernel_rfl) (by decide +kernel) (fun _ _ _ h => h) (fun _ _ _ => trivial) (by rfl) (fun w' hSw => ?_) (((Wr.refl bw W0).set _ _).drew) ?_; rotate_left 1; (focus (skip; go_simp; try with_reducible rfl)); simp only [Act.put, List.setIfInBounds_toArray, List.set_cons_zero, List.set_cons_succ]))
  refine wpAnyHIn_ready [9] (by kernel_rfl) (by simp) ?_
  refine AllHIn.cons rfl (by rfl) (fun K hK => ?_) AllHIn.nil
  go_simp
  refine hK.out _ _ ((((Wr.refl bw W0).set _ _).set _ _).drew) ?_
  clear hK K
  refine wpAnyHIn_done (by kernel_rfl) ?_ _
  have hw2 := hw1.set k 0
  clear hw1 ci fi ck fk hS
  have W1 := (((Wr.refl bw W0).set (ow + i) (.int .i64 0)).set (ow + k) (.int .i64 0)).drew
  have hw2 : RowW ((W0.setCell ⟨bw, ow + i, none⟩ (.int .i64 0)).setCell ⟨bw, ow + k, none⟩ (.int .i64 0)).drew bw ow n (sol0 f i k) := RowW.drew hw2
  generalize ((W0.setCell ⟨bw, ow + i, none⟩ (.int .i64 0)).setCell ⟨bw, ow + k, none⟩ (.int .i64 0)).drew = W2 at *
  have z0 := W1.cell z0 nb
  have z1 := W1.cell z1 nb
  have z2 := W1.cell z2 nb
  have hr2 := hr0.out.wr W1 hne
  have V2 := Lib.hid (V0.out.trans W1)
  clear hr0 hw0 W1 V0
  have SB := Lib.hid (sol_bd (i := i) hn hk hX hf)
  have SP := Lib.hid (fun j (h : j ≤ n) => sm_bd (n := j) (c := 200) (f := sol0 f i k) (fun t ht => sol0_bd hf t (by omega)))
  have SM := Lib.hid (fun j (h : j ≤ n) => sm_bd (n := j) (c := 20000) (f := fun t => sol0 f i k t * X t) (fun t ht => sol0M_bd hX hf t (by omega)))
  have ET := Lib.hid (fun t (ht : t < n) => (⟨sol0_bd hf t ht, sol0M_bd hX hf t ht⟩ : (-200 ≤ sol0 f i k t ∧ sol0 f i k t ≤ 200) ∧ (-20000 ≤ sol0 f i k t * X t ∧ sol0 f i k t * X t ≤ 20000)))
  go_wp2_with fail
  go_loopw [7, 8, 25] (fun s7 s8 s25 wr => ∃ j : Nat, j ≤ n ∧ s25 = .int .i64 j ∧ s7 = .int .i64 (sm (sol0 f i k) j) ∧ s8 = .int .i64 (sm (fun t => sol0 f i k t * X t) j) ∧ wr = W2) (fun _ _ s25 _ => n - (intOf s25).toNat)
  case atStart => exact ⟨0, Nat.zero_le _, rfl, rfl, rfl, rfl⟩
  case round =>
    obtain ⟨j, hj, rfl, rfl, rfl, rfl⟩ := hrel
    by_cases hlt : j < n
    · obtain ⟨b', o', e, hc⟩ := hr2.at hlt
      cases e
      obtain ⟨c1, _⟩ := hc j hlt
      obtain ⟨d1, _⟩ := hw2 j hlt
      have j1 : (j : Int) < n := by omega
      have T1 := SP.out j hj
      have T2 := SM.out j hj
      have T3 := ET.out j hlt
      have R1 := Lib.hid (show sm (sol0 f i k) (j + 1) = sm (sol0 f i k) j + sol0 f i k j from rfl)
      have R2 := Lib.hid (show sm (fun t => sol0 f i k t * X t) (j + 1) = sm (fun t => sol0 f i k t * X t) j + sol0 f i k j * X j from rfl)
      generalize sm (sol0 f i k) j = s at *
      generalize sm (fun t => sol0 f i k t * X t) j = m2 at *
      generalize sol0 f i k j = u at *
      have q1 : wrap64 (s + u) = s + u := IntWalk.wrap64_in _ (by omega)
      have q2 : wrap64 (u * X j) = u * X j := IntWalk.wrap64_in _ (by omega)
      have q3 : wrap64 (m2 + u * X j) = m2 + u * X j := IntWalk.wrap64_in _ (by omega)
      clear T1 T2 T3 hc
      go_wp2_with fail
      go_roundw
      case rel => exact ⟨j + 1, by omega, by go_num, by rw [R1.out, q1], by rw [R2.out, q3], trivial⟩
      case measure => simp [intOf]; omega
    · obtain rfl : j = n := by omega
      go_wp2_with fail
      obtain ⟨b', o', e, hc⟩ := hr2.at hi
      cases e
      obtain ⟨c1, _⟩ := hc i hi
      obtain ⟨c2, _⟩ := hc k hk
      obtain ⟨⟨s1, s2⟩, ⟨m1, m2⟩, ⟨p1, p2⟩, v1, v2⟩ := SB.out
      have xi := hX i hi
      have xk := hX k hk
      have EV := Lib.hid (show solV j X f i k = (solS j f i k * X k - solM j X f i k).tdiv (X i - X k) from rfl)
      have EU := Lib.hid (show solU j X f i k = -solS j f i k - solV j X f i k from rfl)
      have EF := Lib.hid (show solF j X f i k = upd (upd (sol0 f i k) i (solV j X f i k)) k (solU j X f i k) from rfl)
      have EB := Lib.hid (show ∀ m, solB j X f m i k = (decide (ab (solV j X f i k) ≤ m) && decide (ab (solU j X f i k) ≤ m)) from fun _ => rfl)
      rw [show sm (sol0 f i k) j = solS j f i k from rfl, show sm (fun t => sol0 f i k t * X t) j = solM j X f i k from rfl]
      have u1 : -500000 ≤ solU j X f i k ∧ solU j X f i k ≤ 500000 := by rw [EU.out]; omega
      clear hc SB SP SM ET hX hf
      go_wp2_with fail
      go_quiet (fail)
      go_wp2_with fail
      rw [show wrap64 ((solS j f i k * X k - solM j X f i k).tdiv (X i - X k)) = solV j X f i k by rw [← EV.out]; exact IntWalk.wrap64_in _ (by omega)]
      have g3 : Gr wr (wr.drewN nq) := (Gr.refl wr).drewN nq
      have z0 := g3.cell z0
      have z1 := g3.cell z1
      have z2 := g3.cell z2
      have hw3 := hw2.gr g3
      have V3 := Lib.hid (V2.out.trans (Wr.of_gr g3))
      clear hw2 hr2 c1 c2 V2 EV g3
      generalize wr.drewN nq = W3 at *
      have q4 : IntKind.i64.wrap (-solS j f i k) = -solS j f i k := IntWalk.i64_in _ (by omega)
      have q5 : IntKind.i64.wrap (-solS j f i k - solV j X f i k) = solU j X f i k := by rw [← EU.out]; exact IntWalk.i64_in _ (by omega)
      have CA := Lib.hid (fun w' => (abs_any (solV j X f i k) w' (by unfold Sz; omega)).mono fun _ _ h => (⟨h.1, h.2.symm⟩ : _ ∧ _ = w'))
      have CB := Lib.hid (fun w' => (abs_any (solU j X f i k) w' (by unfold Sz; omega)).mono fun _ _ h => (⟨h.1, h.2.symm⟩ : _ ∧ _ = w'))
      generalize solV j X f i k = v at *
      generalize solU j X f i k = u at *
      generalize solS j f i k = s at *
      obtain ⟨ci, fi⟩ := hw3 i hi
      have hw4 := hw3.set i v
      obtain ⟨ck, fk⟩ := hw4 k hk
      clear hw3
      refine (wpIn_wide (n := 3)).1 ?_
      refine wpIn_region_held (fun w' => Wr bw W3 w') 15 (by kernel_rfl) rfl rfl ?_
      have hS : Wr bw W3 W3.drew := (Wr.refl bw W3).drew
      iterate 11 (first
        | (refine wpAnyHIn_take 0 (v := ?_) rfl (by kernel_rfl) (by kernel_rfl) (by kernel_rfl) (by decide +kernel) (fun _ _ _ h => h) (fun _ _ _ => trivial) (by rfl) (fun w' hSw => ?_) hS ?_; rotate_left 1; (focus (have y0 := hSw.cell z0 nb; have y1 := hSw.cell z1 nb; have y2 := hSw.cell z2 nb; go_simp; try with_reducible rfl)); simp only [Act.put, List.setIfInBounds_toArray, List.set_cons_zero, List.set_cons_succ])
        | (refine wpAnyHIn_take 1 (v := ?_) rfl (by kernel_rfl) (by kernel_rfl) (by kernel_rfl) (by decide +kernel) (fun _ _ _ h => h) (fun _ _ _ => trivial) (by rfl) (fun w' hSw => ?_) hS ?_; rotate_left 1; (focus (have y0 := hSw.cell z0 nb; have y1 := hSw.cell z1 nb; have y2 := hSw.cell z2 nb; go_simp; try with_reducible rfl)); simp only [Act.put, List.setIfInBounds_toArray, List.set_cons_zero, List.set_cons_succ])
        | (refine wpAnyHIn_take 2 (v := ?_) rfl (by kernel_rfl) (by kernel_rfl) (by kernel_rfl) (by decide +kernel) (fun _ _ _ h => h) (fun _ _ _ => trivial) (by rfl) (fun w' hSw => ?_) hS ?_; rotate_left 1; (focus (have y0 := hSw.cell z0 nb; have y1 := hSw.cell z1 nb; have y2 := hSw.cell z2 nb; go_simp; try with_reducible rfl)); simp only [Act.put, List.setIfInBounds_toArray, List.set_cons_zero, List.set_cons_succ])
        | (refine wpAnyHIn_take 3 (v := ?_) rfl (by kernel_rfl) (by kernel_rfl) (by kernel_rfl) (by decide +kernel) (fun _ _ _ h => h) (fun _ _ _ => trivial) (by rfl) (fun w' hSw => ?_) hS ?_; rotate_left 1; (focus (have y0 := hSw.cell z0 nb; have y1 := hSw.cell z1 nb; have y2 := hSw.cell z2 nb; go_simp; try with_reducible rfl)); simp only [Act.put, List.setIfInBounds_toArray, List.set_cons_zero, List.set_cons_succ])
        | (refine wpAnyHIn_take 4 (v := ?_) rfl (by kernel_rfl) (by kernel_rfl) (by kernel_rfl) (by decide +kernel) (fun _ _ _ h => h) (fun _ _ _ => trivial) (by rfl) (fun w' hSw => ?_) hS ?_; rotate_left 1; (focus (have y0 := hSw.cell z0 nb; have y1 := hSw.cell z1 nb; have y2 := hSw.cell z2 nb; go_simp; try with_reducible rfl)); simp only [Act.put, List.setIfInBounds_toArray, List.set_cons_zero, List.set_cons_succ])
        | (refine wpAnyHIn_take 5 (v := ?_) rfl (by kernel_rfl) (by kernel_rfl) (by kernel_rfl) (by decide +kernel) (fun _ _ _ h => h) (fun _ _ _ => trivial) (by rfl) (fun w' hSw => ?_) hS ?_; rotate_left 1; (focus (have y0 := hSw.cell z0 nb; have y1 := hSw.cell z1 nb; have y2 := hSw.cell z2 nb; go_simp; try with_reducible rfl)); simp only [Act.put, List.setIfInBounds_toArray, List.set_cons_zero, List.set_cons_succ])
        | (refine wpAnyHIn_take 6 (v := ?_) rfl (by kernel_rfl) (by kernel_rfl) (by kernel_rfl) (by decide +kernel) (fun _ _ _ h => h) (fun _ _ _ => trivial) (by rfl) (fun w' hSw => ?_) hS ?_; rotate_left 1; (focus (have y0 := hSw.cell z0 nb; have y1 := hSw.cell z1 nb; have y2 := hSw.cell z2 nb; go_simp; try with_reducible rfl)); simp only [Act.put, List.setIfInBounds_toArray, List.set_cons_zero, List.set_cons_succ])
        | (refine wpAnyHIn_take 7 (v := ?_) rfl (by kernel_rfl) (by kernel_rfl) (by kernel_rfl) (by decide +kernel) (fun _ _ _ h => h) (fun _ _ _ => trivial) (by rfl) (fun w' hSw => ?_) hS ?_; rotate_left 1; (focus (have y0 := hSw.cell z0 nb; have y1 := hSw.cell z1 nb; have y2 := hSw.cell z2 nb; go_simp; try with_reducible rfl)); simp only [Act.put, List.setIfInBounds_toArray, List.set_cons_zero, List.set_cons_succ])
        | (refine wpAnyHIn_take 8 (v := ?_) rfl (by kernel_rfl) (by kernel_rfl) (by kernel_rfl) (by decide +kernel) (fun _ _ _ h => h) (fun _ _ _ => trivial) (by rfl) (fun w' hSw => ?_) hS ?_; rotate_left 1; (focus (have y0 := hSw.cell z0 nb; have y1 := hSw.cell z1 nb; have y2 := hSw.cell z2 nb; go_simp; try with_reducible rfl)); simp only [Act.put, List.setIfInBounds_toArray, List.set_cons_zero, List.set_cons_succ])
        | (refine wpAnyHIn_take 9 (v := ?_) rfl (by kernel_rfl) (by kernel_rfl) (by kernel_rfl) (by decide +kernel) (fun _ _ _ h => h) (fun _ _ _ => trivial) (by rfl) (fun w' hSw => ?_) hS ?_; rotate_left 1; (focus (have y0 := hSw.cell z0 nb; have y1 := hSw.cell z1 nb; have y2 := hSw.cell z2 nb; go_simp; try with_reducible rfl)); simp only [Act.put, List.setIfInBounds_toArray, List.set_cons_zero, List.set_cons_succ])
        | (refine wpAnyHIn_take 10 (v := ?_) rfl (by kernel_rfl) (by kernel_rfl) (by kernel_rfl) (by decide +kernel) (fun _ _ _ h => h) (fun _ _ _ => trivial) (by rfl) (fun w' hSw => ?_) hS ?_; rotate_left 1; (focus (have y0 := hSw.cell z0 nb; have y1 := hSw.cell z1 nb; have y2 := hSw.cell z2 nb; go_simp; try with_reducible rfl)); simp only [Act.put, List.setIfInBounds_toArray, List.set_cons_zero, List.set_cons_succ]))
      iterate 1 (first
        | (refine wpAnyHIn_take 11 (v := ?_) rfl (by kernel_rfl) (by kernel_rfl) (by kernel_rfl) (by decide +kernel) (fun _ _ _ h => h) (fun _ _ _ => trivial) (by rfl) (fun w' hSw => ?_) hS ?_; rotate_left 1; (focus (skip; go_simp; try with_reducible rfl)); simp only [Act.put, List.setIfInBounds_toArray, List.set_cons_zero, List.set_cons_succ]))
      refine wpAnyHIn_ready [12] (by kernel_rfl) (by simp) ?_
      refine AllHIn.cons rfl (by rfl) (fun K hK => ?_) AllHIn.nil
      go_simp
      refine hK.out _ _ (((Wr.refl bw W3).set _ _).drew) ?_
      clear hK K
      iterate 1 (first
        | (refine wpAnyHIn_take 13 (v := ?_) rfl (by kernel_rfl) (by kernel_rfl) (by kernel_rfl) (by decide +kernel) (fun _ _ _ h => h) (fun _ _ _ => trivial) (by rfl) (fun w' hSw => ?_) (((Wr.refl bw W3).set _ _).drew) ?_; rotate_left 1; (focus (skip; go_simp; try with_reducible rfl)); simp only [Act.put, List.setIfInBounds_toArray, List.set_cons_zero, List.set_cons_succ]))
      refine wpAnyHIn_ready [14] (by kernel_rfl) (by simp) ?_
      refine AllHIn.cons rfl (by rfl) (fun K hK => ?_) AllHIn.nil
      go_simp
      refine hK.out _ _ ((((Wr.refl bw W3).set _ _).set _ _).drew) ?_
      clear hK K
      refine wpAnyHIn_done (by kernel_rfl) ?_ _
      have hw5 := RowW.drew (hw4.set k u)
      have W1 := (((Wr.refl bw W3).set (ow + i) (.int .i64 v)).set (ow + k) (.int .i64 u)).drew
      clear hw4 ci fi ck fk hS
      generalize ((W3.setCell ⟨bw, ow + i, none⟩ (.int .i64 v)).setCell ⟨bw, ow + k, none⟩ (.int .i64 u)).drew = W4 at *
      have z0 := W1.cell z0 nb
      have z1 := W1.cell z1 nb
      have z2 := W1.cell z2 nb
      have V4 := Lib.hid (V3.out.trans W1)
      have H5 := Lib.hid hw5
      clear hw5 V3 W1
      generalize hav : ab v = av at *
      generalize hau : ab u = au at *
      have VE := Lib.hid (show solB j X f m i k = (decide (av ≤ m) && decide (au ≤ m)) by rw [EB.out])
      clear EB hav hau
      cases d1 : decide (av ≤ m)
      · go_wp2_with fail
        go_quiet ((first | (go_at_call 75; with_reducible exact Calls.quiet_of_same (CA.out _)) | (go_at_call 75; with_reducible exact Calls.quiet_of_same (CB.out _))))
        go_wp2_with fail
        go_ret
        refine ⟨by rw [VE.out, d1]; rfl, ?_, ?_⟩
        · exact V4.out.trans ((Wr.refl _ _).drewN nq)
        · rw [EF.out]; exact H5.out.gr ((Gr.refl _).drewN nq)
      · cases d2 : decide (au ≤ m)
        · go_wp2_with fail
          go_quiet ((first | (go_at_call 75; with_reducible exact Calls.quiet_of_same (CA.out _)) | (go_at_call 75; with_reducible exact Calls.quiet_of_same (CB.out _))))
          go_wp2_with fail
          go_ret
          refine ⟨by rw [VE.out, d1, d2]; rfl, ?_, ?_⟩
          · exact V4.out.trans ((Wr.refl _ _).drewN nq)
          · rw [EF.out]; exact H5.out.gr ((Gr.refl _).drewN nq)
        · go_wp2_with fail
          go_quiet ((first | (go_at_call 75; with_reducible exact Calls.quiet_of_same (CA.out _)) | (go_at_call 75; with_reducible exact Calls.quiet_of_same (CB.out _))))
          go_wp2_with fail
          go_ret
          refine ⟨by rw [VE.out, d1, d2]; rfl, ?_, ?_⟩
          · exact V4.out.trans ((Wr.refl _ _).drewN nq)
          · rw [EF.out]; exact H5.out.gr ((Gr.refl _).drewN nq)

end Go.Proofs.Ytbhndfnfohoidaa
