/- Contracts of chapter 5: the axis, of the program. -/
import Derived.Test.YtbhndfnfohoidaaW30
import Derived.Test.YtbhndfnfohoidaaW29
import Derived.Test.YtbhndfnfohoidaaW12
namespace Go.Proofs.Ytbhndfnfohoidaa
open Go.RowKit Go.Firn

set_option maxHeartbeats 4000000 in
set_option maxRecDepth 100000 in
theorem axis_any (b o n c : Nat) (X Y : Nat → Int) (V : VP n X Y) (w : World) (hr : RdM w (some ⟨b, o, none⟩) n X Y) :
    Calls Try.prog 77 #[.slice (some ⟨b, o, none⟩) n c] w (RetL (axL n X Y (witS X Y (wits n X)).l).A (axL n X Y (witS X Y (wits n X)).l).B (axL n X Y (witS X Y (wits n X)).l).D w) := by
  have G0 := Lib.hid ((Gr.refl w).alloc (.cells #[.int .i64 0, .int .i64 0, .int .i64 0] 37))
  have B0 := Lib.hid (show Box3 (w.alloc (.cells #[.int .i64 0, .int .i64 0, .int .i64 0] 37)) w.heap.size 0 0 0 from Box3.new rfl)
  have HT := witness_any b o n c X Y V (w.alloc (.cells #[.int .i64 0, .int .i64 0, .int .i64 0] 37)) (hr.gr G0.out)
  have HR := Lib.hid hr
  have HV := Lib.hid V
  have n2 := V.two
  have n12 := V.few
  have hcc : ∀ (w1 : World), Gr w w1 → ∀ i, i < n → w1.cell? ⟨b, o + i * 2, none⟩ = some (.int .i64 (X i)) ∧ w1.cell? ⟨b, o + i * 2 + 1, none⟩ = some (.int .i64 (Y i)) := fun w1 g => by
    obtain ⟨b', o', e, h⟩ := (hr.gr g).at (show 0 < n by omega)
    simp at e
    obtain ⟨rfl, rfl⟩ := e
    exact h
  have HC := Lib.hid hcc
  have LB : b < w.heap.size := World.block_lt_of_cell? w _ (hcc w (Gr.refl w) 0 (by omega)).1
  obtain ⟨tN, htN⟩ : ∃ x, (witS X Y (wits n X)).N = x := ⟨_, rfl⟩
  obtain ⟨tD, htD⟩ : ∃ x, (witS X Y (wits n X)).D = x := ⟨_, rfl⟩
  unfold RetWit at HT
  rw [htN, htD] at HT
  rcases wit_cases V with ⟨e, hn, _, _⟩ | ⟨p, q, e, ⟨hp, hq, hne, hx⟩, _, _, T⟩ | ⟨p, q, s, e, ⟨hp, hq, hs, h1, h2⟩, _, _, T⟩
  · obtain ⟨rfl, hx⟩ := wits_nil V hn
    rw [e] at HT ⊢
    have HT := Lib.hid (HT.mono (R' := fun e w' => e = .returned (.tuple #[.slice none 0 0, .agg #[.int .i64 tN, .int .i64 tD]]) ∧ Gr (w.alloc (.cells #[.int .i64 0, .int .i64 0, .int .i64 0] 37)) w') (by
      rintro e w' ⟨v, rfl, hv, g'⟩
      rcases hv with ⟨_, rfl⟩ | ⟨h, _⟩
      · exact ⟨rfl, g'⟩
      · exact absurd rfl h))
    have CT := Lib.hid (fun w' => through_any (X 0) (Y 0) (X 1) (Y 1) w' (V.ok 0 (by omega)) (V.ok 1 (by omega)) hx)
    have EA := Lib.hid (show thA (X 0) (Y 0) (X 1) (Y 1) = (axL 2 X Y []).A ∧ thB (X 0) (Y 0) (X 1) (Y 1) = (axL 2 X Y []).B ∧ thD (X 0) (Y 0) (X 1) (Y 1) = (axL 2 X Y []).D from ⟨rfl, rfl, rfl⟩)
    rw [EA.out.1, EA.out.2.1, EA.out.2.2] at CT
    clear hr V hcc htN htD hn hx e EA HV
    generalize (axL 2 X Y []).A = rA at *
    generalize (axL 2 X Y []).B = rB at *
    generalize (axL 2 X Y []).D = rE at *
    go_enter Try.func77, Try.ntmps77
    go_wp2_with (go_at_call 63; refine (HT.out).mono ?_; rintro e w1 ⟨rfl, g1⟩; have G1 := Lib.hid (g1.alloc (.cells #[.int .i64 tN, .int .i64 tD] 27)))
    have hc := HC.out _ (G0.out.trans G1.out)
    generalize hW1 : w1.alloc (.cells #[.int .i64 tN, .int .i64 tD] 27) = W1 at *
    have B1 := Lib.hid (B0.out.gr G1.out)
    have GG := Lib.hid (G0.out.trans G1.out)
    have c0 : W1.cell? ⟨b, o, none⟩ = some (.int .i64 (X 0)) := by have h := (hc 0 (by omega)).1; simpa using h
    have c1 : W1.cell? ⟨b, o + 1, none⟩ = some (.int .i64 (Y 0)) := by have h := (hc 0 (by omega)).2; simpa using h
    have d0 : W1.cell? ⟨b, o + 2, none⟩ = some (.int .i64 (X 1)) := by have h := (hc 1 (by omega)).1; simpa using h
    have d1 : W1.cell? ⟨b, o + 2 + 1, none⟩ = some (.int .i64 (Y 1)) := by have h := (hc 1 (by omega)).2; simpa using h
    have lb : b < w.heap.size := LB
    clear hc HT g1 hW1
    refine (wpIn_wide (n := 3)).1 ?_
    refine wpIn_region_held (fun w' => Wx (fun k => k = w.heap.size) W1 w') 8 (by kernel_rfl) rfl rfl ?_
    have hS : Wx (fun k => k = w.heap.size) W1 W1.drew := (Wx.refl _ _).drew
    have hG : Gr W1 W1.drew := (Gr.refl W1).drew
    iterate 6 (first
      | (refine wpAnyHIn_take 0 (v := ?_) rfl (by kernel_rfl) (by kernel_rfl) (by kernel_rfl) (by decide +kernel) (fun _ _ _ h => h) (fun _ _ _ => trivial) (by rfl) (fun w' hSw => ?_) hS ?_; rotate_left 1; (focus (have z0 := hSw.cell c0 (show ¬ b = w.heap.size by omega); have z1 := hSw.cell c1 (show ¬ b = w.heap.size by omega); have z2 := hSw.cell d0 (show ¬ b = w.heap.size by omega); have z3 := hSw.cell d1 (show ¬ b = w.heap.size by omega); go_simp; try with_reducible rfl)); simp only [Act.put, List.setIfInBounds_toArray, List.set_cons_zero, List.set_cons_succ])
      | (refine wpAnyHIn_take 1 (v := ?_) rfl (by kernel_rfl) (by kernel_rfl) (by kernel_rfl) (by decide +kernel) (fun _ _ _ h => h) (fun _ _ _ => trivial) (by rfl) (fun w' hSw => ?_) hS ?_; rotate_left 1; (focus (have z0 := hSw.cell c0 (show ¬ b = w.heap.size by omega); have z1 := hSw.cell c1 (show ¬ b = w.heap.size by omega); have z2 := hSw.cell d0 (show ¬ b = w.heap.size by omega); have z3 := hSw.cell d1 (show ¬ b = w.heap.size by omega); go_simp; try with_reducible rfl)); simp only [Act.put, List.setIfInBounds_toArray, List.set_cons_zero, List.set_cons_succ])
      | (refine wpAnyHIn_take 2 (v := ?_) rfl (by kernel_rfl) (by kernel_rfl) (by kernel_rfl) (by decide +kernel) (fun _ _ _ h => h) (fun _ _ _ => trivial) (by rfl) (fun w' hSw => ?_) hS ?_; rotate_left 1; (focus (have z0 := hSw.cell c0 (show ¬ b = w.heap.size by omega); have z1 := hSw.cell c1 (show ¬ b = w.heap.size by omega); have z2 := hSw.cell d0 (show ¬ b = w.heap.size by omega); have z3 := hSw.cell d1 (show ¬ b = w.heap.size by omega); go_simp; try with_reducible rfl)); simp only [Act.put, List.setIfInBounds_toArray, List.set_cons_zero, List.set_cons_succ])
      | (refine wpAnyHIn_take 3 (v := ?_) rfl (by kernel_rfl) (by kernel_rfl) (by kernel_rfl) (by decide +kernel) (fun _ _ _ h => h) (fun _ _ _ => trivial) (by rfl) (fun w' hSw => ?_) hS ?_; rotate_left 1; (focus (have z0 := hSw.cell c0 (show ¬ b = w.heap.size by omega); have z1 := hSw.cell c1 (show ¬ b = w.heap.size by omega); have z2 := hSw.cell d0 (show ¬ b = w.heap.size by omega); have z3 := hSw.cell d1 (show ¬ b = w.heap.size by omega); go_simp; try with_reducible rfl)); simp only [Act.put, List.setIfInBounds_toArray, List.set_cons_zero, List.set_cons_succ])
      | (refine wpAnyHIn_take 4 (v := ?_) rfl (by kernel_rfl) (by kernel_rfl) (by kernel_rfl) (by decide +kernel) (fun _ _ _ h => h) (fun _ _ _ => trivial) (by rfl) (fun w' hSw => ?_) hS ?_; rotate_left 1; (focus (have z0 := hSw.cell c0 (show ¬ b = w.heap.size by omega); have z1 := hSw.cell c1 (show ¬ b = w.heap.size by omega); have z2 := hSw.cell d0 (show ¬ b = w.heap.size by omega); have z3 := hSw.cell d1 (show ¬ b = w.heap.size by omega); go_simp; try with_reducible rfl)); simp only [Act.put, List.setIfInBounds_toArray, List.set_cons_zero, List.set_cons_succ])
      | (refine wpAnyHIn_take 5 (v := ?_) rfl (by kernel_rfl) (by kernel_rfl) (by kernel_rfl) (by decide +kernel) (fun _ _ _ h => h) (fun _ _ _ => trivial) (by rfl) (fun w' hSw => ?_) hS ?_; rotate_left 1; (focus (have z0 := hSw.cell c0 (show ¬ b = w.heap.size by omega); have z1 := hSw.cell c1 (show ¬ b = w.heap.size by omega); have z2 := hSw.cell d0 (show ¬ b = w.heap.size by omega); have z3 := hSw.cell d1 (show ¬ b = w.heap.size by omega); go_simp; try with_reducible rfl)); simp only [Act.put, List.setIfInBounds_toArray, List.set_cons_zero, List.set_cons_succ]))
    refine wpAnyHIn_ready [6] (by kernel_rfl) (by simp) ?_
    refine AllHIn.cons rfl (by rfl) (fun K hK => ?_) AllHIn.nil
    go_simp
    refine ⟨trivial, ?_⟩
    refine (callsIn_wide.2 (CT.out _)).mono ?_
    rintro e w3 ⟨rfl, g3⟩
    have hS := hS.trans (Wx.of_gr g3)
    have hG := hG.trans g3
    refine hK.out _ _ hS ?_
    clear hK K
    obtain ⟨k0, k1, k2, k3, k4, k5⟩ := B1.out.gr hG
    obtain ⟨z0, z1, z2, _⟩ := Box3.put (show Box3 w3 w.heap.size 0 0 0 from ⟨k0, k1, k2, k3, k4, k5⟩) rA rB rE
    have GF := (((GG.out.trans hG).setAt (Nat.le_refl _) (j := 0) (.int .i64 rA)).setAt (Nat.le_refl _) (j := 1) (.int .i64 rB)).setAt (Nat.le_refl _) (j := 2) (.int .i64 rE)
    refine wpAnyHIn_ready [7] (by kernel_rfl) (by simp) ?_
    refine AllHIn.cons rfl (by rfl) (fun K hK => ?_) AllHIn.nil
    go_simp
    refine hK.out _ _ (((hS.set rfl 0 _).set rfl 1 _).set rfl 2 _) ?_
    clear hK K
    refine wpAnyHIn_done (by kernel_rfl) ?_ _
    go_wp2_with fail
    exact bodyPost_ret (v := .agg #[.int .i64 rA, .int .i64 rB, .int .i64 rE]) (by simp [results, Try.results77, go_sem, z0, z1, z2]) rfl ⟨rfl, GF⟩
  · have hne' := hne
    rw [e] at HT ⊢
    have HT := Lib.hid (HT.mono (R' := fun e w' => ∃ g, e = .returned (.tuple #[.slice (some ⟨g, 0, none⟩) 2 2, .agg #[.int .i64 tN, .int .i64 tD]]) ∧ HxW (g, [p, q]) w' ∧ Gr (w.alloc (.cells #[.int .i64 0, .int .i64 0, .int .i64 0] 37)) w') (by
      rintro e w' ⟨v, rfl, hv, g'⟩
      rcases hv with ⟨h, _⟩ | ⟨_, g, rfl, hx'⟩
      · cases h
      · exact ⟨g, rfl, hx', g'⟩))
    obtain ⟨⟨pa1, pa2⟩, pb1, pb2⟩ := V.ok p hp
    obtain ⟨_, pb3, pb4⟩ := V.ok q hq
    have CB := Lib.hid (fun w1 (g : Gr w w1) => beside_any (some ⟨b, o, none⟩) n c X Y (X p) (Y p) (X q) (Y q) V ⟨pa1, pa2⟩ ⟨pb1, pb2⟩ ⟨pb3, pb4⟩ w1 (HR.out.gr g))
    have EA := Lib.hid (show axL n X Y [p, q] = beL n X Y (X p) (Y p) (Y q) from rfl)
    rw [EA.out]
    clear hr V hcc htN htD hx e EA HV T pa1 pa2 pb1 pb2 pb3 pb4
    generalize (beL n X Y (X p) (Y p) (Y q)).A = rA at *
    generalize (beL n X Y (X p) (Y p) (Y q)).B = rB at *
    generalize (beL n X Y (X p) (Y p) (Y q)).D = rE at *
    go_enter Try.func77, Try.ntmps77
    go_wp2_with (go_at_call 63; refine (HT.out).mono ?_; rintro e w1 ⟨g, rfl, hxw, g1⟩; have G1 := Lib.hid (g1.alloc (.cells #[.int .i64 tN, .int .i64 tD] 27)); have XW := Lib.hid hxw; clear hxw)
    have hc := HC.out _ (G0.out.trans G1.out)
    have e0 : (w1.alloc (.cells #[.int .i64 tN, .int .i64 tD] 27)).cell? ⟨g, 0, none⟩ = some (.int .i64 (p : Nat)) := ((Gr.refl w1).alloc _).cell (XW.out 0 (by simp))
    have e1 : (w1.alloc (.cells #[.int .i64 tN, .int .i64 tD] 27)).cell? ⟨g, 1, none⟩ = some (.int .i64 (q : Nat)) := ((Gr.refl w1).alloc _).cell (XW.out 1 (by simp))
    generalize hW1 : w1.alloc (.cells #[.int .i64 tN, .int .i64 tD] 27) = W1 at *
    have B1 := Lib.hid (B0.out.gr G1.out)
    have GG := Lib.hid (G0.out.trans G1.out)
    have lb : b < w.heap.size := LB
    have gne : ¬ g = w.heap.size := fun h => by
      subst h
      have h1 := e0.symm.trans B1.out.1
      have h2 := e1.symm.trans B1.out.2.1
      simp at h1 h2
      omega
    obtain ⟨c0, c1⟩ := hc p hp
    obtain ⟨d0, d1⟩ := hc q hq
    have pp : (p : Int) < n := by omega
    have pq : (q : Int) < n := by omega
    clear hc HT g1 hW1 XW G1
    refine (wpIn_wide (n := 3)).1 ?_
    refine wpIn_region_held (fun w' => Wx (fun k => k = w.heap.size) W1 w') 15 (by kernel_rfl) rfl rfl ?_
    have hS : Wx (fun k => k = w.heap.size) W1 W1.drew := (Wx.refl _ _).drew
    have hG : Gr W1 W1.drew := (Gr.refl W1).drew
    iterate 13 (first
      | (refine wpAnyHIn_take 0 (v := ?_) rfl (by kernel_rfl) (by kernel_rfl) (by kernel_rfl) (by decide +kernel) (fun _ _ _ h => h) (fun _ _ _ => trivial) (by rfl) (fun w' hSw => ?_) hS ?_; rotate_left 1; (focus (have z0 := hSw.cell c0 (show ¬ b = w.heap.size by omega); have z1 := hSw.cell c1 (show ¬ b = w.heap.size by omega); have z2 := hSw.cell d0 (show ¬ b = w.heap.size by omega); have z3 := hSw.cell d1 (show ¬ b = w.heap.size by omega); have z4 := hSw.cell e0 (show ¬ g = w.heap.size by omega); have z5 := hSw.cell e1 (show ¬ g = w.heap.size by omega); go_simp; try with_reducible rfl)); simp only [Act.put, List.setIfInBounds_toArray, List.set_cons_zero, List.set_cons_succ])
      | (refine wpAnyHIn_take 1 (v := ?_) rfl (by kernel_rfl) (by kernel_rfl) (by kernel_rfl) (by decide +kernel) (fun _ _ _ h => h) (fun _ _ _ => trivial) (by rfl) (fun w' hSw => ?_) hS ?_; rotate_left 1; (focus (have z0 := hSw.cell c0 (show ¬ b = w.heap.size by omega); have z1 := hSw.cell c1 (show ¬ b = w.heap.size by omega); have z2 := hSw.cell d0 (show ¬ b = w.heap.size by omega); have z3 := hSw.cell d1 (show ¬ b = w.heap.size by omega); have z4 := hSw.cell e0 (show ¬ g = w.heap.size by omega); have z5 := hSw.cell e1 (show ¬ g = w.heap.size by omega); go_simp; try with_reducible rfl)); simp only [Act.put, List.setIfInBounds_toArray, List.set_cons_zero, List.set_cons_succ])
      | (refine wpAnyHIn_take 2 (v := ?_) rfl (by kernel_rfl) (by kernel_rfl) (by kernel_rfl) (by decide +kernel) (fun _ _ _ h => h) (fun _ _ _ => trivial) (by rfl) (fun w' hSw => ?_) hS ?_; rotate_left 1; (focus (have z0 := hSw.cell c0 (show ¬ b = w.heap.size by omega); have z1 := hSw.cell c1 (show ¬ b = w.heap.size by omega); have z2 := hSw.cell d0 (show ¬ b = w.heap.size by omega); have z3 := hSw.cell d1 (show ¬ b = w.heap.size by omega); have z4 := hSw.cell e0 (show ¬ g = w.heap.size by omega); have z5 := hSw.cell e1 (show ¬ g = w.heap.size by omega); go_simp; try with_reducible rfl)); simp only [Act.put, List.setIfInBounds_toArray, List.set_cons_zero, List.set_cons_succ])
      | (refine wpAnyHIn_take 3 (v := ?_) rfl (by kernel_rfl) (by kernel_rfl) (by kernel_rfl) (by decide +kernel) (fun _ _ _ h => h) (fun _ _ _ => trivial) (by rfl) (fun w' hSw => ?_) hS ?_; rotate_left 1; (focus (have z0 := hSw.cell c0 (show ¬ b = w.heap.size by omega); have z1 := hSw.cell c1 (show ¬ b = w.heap.size by omega); have z2 := hSw.cell d0 (show ¬ b = w.heap.size by omega); have z3 := hSw.cell d1 (show ¬ b = w.heap.size by omega); have z4 := hSw.cell e0 (show ¬ g = w.heap.size by omega); have z5 := hSw.cell e1 (show ¬ g = w.heap.size by omega); go_simp; try with_reducible rfl)); simp only [Act.put, List.setIfInBounds_toArray, List.set_cons_zero, List.set_cons_succ])
      | (refine wpAnyHIn_take 4 (v := ?_) rfl (by kernel_rfl) (by kernel_rfl) (by kernel_rfl) (by decide +kernel) (fun _ _ _ h => h) (fun _ _ _ => trivial) (by rfl) (fun w' hSw => ?_) hS ?_; rotate_left 1; (focus (have z0 := hSw.cell c0 (show ¬ b = w.heap.size by omega); have z1 := hSw.cell c1 (show ¬ b = w.heap.size by omega); have z2 := hSw.cell d0 (show ¬ b = w.heap.size by omega); have z3 := hSw.cell d1 (show ¬ b = w.heap.size by omega); have z4 := hSw.cell e0 (show ¬ g = w.heap.size by omega); have z5 := hSw.cell e1 (show ¬ g = w.heap.size by omega); go_simp; try with_reducible rfl)); simp only [Act.put, List.setIfInBounds_toArray, List.set_cons_zero, List.set_cons_succ])
      | (refine wpAnyHIn_take 5 (v := ?_) rfl (by kernel_rfl) (by kernel_rfl) (by kernel_rfl) (by decide +kernel) (fun _ _ _ h => h) (fun _ _ _ => trivial) (by rfl) (fun w' hSw => ?_) hS ?_; rotate_left 1; (focus (have z0 := hSw.cell c0 (show ¬ b = w.heap.size by omega); have z1 := hSw.cell c1 (show ¬ b = w.heap.size by omega); have z2 := hSw.cell d0 (show ¬ b = w.heap.size by omega); have z3 := hSw.cell d1 (show ¬ b = w.heap.size by omega); have z4 := hSw.cell e0 (show ¬ g = w.heap.size by omega); have z5 := hSw.cell e1 (show ¬ g = w.heap.size by omega); go_simp; try with_reducible rfl)); simp only [Act.put, List.setIfInBounds_toArray, List.set_cons_zero, List.set_cons_succ])
      | (refine wpAnyHIn_take 6 (v := ?_) rfl (by kernel_rfl) (by kernel_rfl) (by kernel_rfl) (by decide +kernel) (fun _ _ _ h => h) (fun _ _ _ => trivial) (by rfl) (fun w' hSw => ?_) hS ?_; rotate_left 1; (focus (have z0 := hSw.cell c0 (show ¬ b = w.heap.size by omega); have z1 := hSw.cell c1 (show ¬ b = w.heap.size by omega); have z2 := hSw.cell d0 (show ¬ b = w.heap.size by omega); have z3 := hSw.cell d1 (show ¬ b = w.heap.size by omega); have z4 := hSw.cell e0 (show ¬ g = w.heap.size by omega); have z5 := hSw.cell e1 (show ¬ g = w.heap.size by omega); go_simp; try with_reducible rfl)); simp only [Act.put, List.setIfInBounds_toArray, List.set_cons_zero, List.set_cons_succ])
      | (refine wpAnyHIn_take 7 (v := ?_) rfl (by kernel_rfl) (by kernel_rfl) (by kernel_rfl) (by decide +kernel) (fun _ _ _ h => h) (fun _ _ _ => trivial) (by rfl) (fun w' hSw => ?_) hS ?_; rotate_left 1; (focus (have z0 := hSw.cell c0 (show ¬ b = w.heap.size by omega); have z1 := hSw.cell c1 (show ¬ b = w.heap.size by omega); have z2 := hSw.cell d0 (show ¬ b = w.heap.size by omega); have z3 := hSw.cell d1 (show ¬ b = w.heap.size by omega); have z4 := hSw.cell e0 (show ¬ g = w.heap.size by omega); have z5 := hSw.cell e1 (show ¬ g = w.heap.size by omega); go_simp; try with_reducible rfl)); simp only [Act.put, List.setIfInBounds_toArray, List.set_cons_zero, List.set_cons_succ])
      | (refine wpAnyHIn_take 8 (v := ?_) rfl (by kernel_rfl) (by kernel_rfl) (by kernel_rfl) (by decide +kernel) (fun _ _ _ h => h) (fun _ _ _ => trivial) (by rfl) (fun w' hSw => ?_) hS ?_; rotate_left 1; (focus (have z0 := hSw.cell c0 (show ¬ b = w.heap.size by omega); have z1 := hSw.cell c1 (show ¬ b = w.heap.size by omega); have z2 := hSw.cell d0 (show ¬ b = w.heap.size by omega); have z3 := hSw.cell d1 (show ¬ b = w.heap.size by omega); have z4 := hSw.cell e0 (show ¬ g = w.heap.size by omega); have z5 := hSw.cell e1 (show ¬ g = w.heap.size by omega); go_simp; try with_reducible rfl)); simp only [Act.put, List.setIfInBounds_toArray, List.set_cons_zero, List.set_cons_succ])
      | (refine wpAnyHIn_take 9 (v := ?_) rfl (by kernel_rfl) (by kernel_rfl) (by kernel_rfl) (by decide +kernel) (fun _ _ _ h => h) (fun _ _ _ => trivial) (by rfl) (fun w' hSw => ?_) hS ?_; rotate_left 1; (focus (have z0 := hSw.cell c0 (show ¬ b = w.heap.size by omega); have z1 := hSw.cell c1 (show ¬ b = w.heap.size by omega); have z2 := hSw.cell d0 (show ¬ b = w.heap.size by omega); have z3 := hSw.cell d1 (show ¬ b = w.heap.size by omega); have z4 := hSw.cell e0 (show ¬ g = w.heap.size by omega); have z5 := hSw.cell e1 (show ¬ g = w.heap.size by omega); go_simp; try with_reducible rfl)); simp only [Act.put, List.setIfInBounds_toArray, List.set_cons_zero, List.set_cons_succ])
      | (refine wpAnyHIn_take 10 (v := ?_) rfl (by kernel_rfl) (by kernel_rfl) (by kernel_rfl) (by decide +kernel) (fun _ _ _ h => h) (fun _ _ _ => trivial) (by rfl) (fun w' hSw => ?_) hS ?_; rotate_left 1; (focus (have z0 := hSw.cell c0 (show ¬ b = w.heap.size by omega); have z1 := hSw.cell c1 (show ¬ b = w.heap.size by omega); have z2 := hSw.cell d0 (show ¬ b = w.heap.size by omega); have z3 := hSw.cell d1 (show ¬ b = w.heap.size by omega); have z4 := hSw.cell e0 (show ¬ g = w.heap.size by omega); have z5 := hSw.cell e1 (show ¬ g = w.heap.size by omega); go_simp; try with_reducible rfl)); simp only [Act.put, List.setIfInBounds_toArray, List.set_cons_zero, List.set_cons_succ])
      | (refine wpAnyHIn_take 11 (v := ?_) rfl (by kernel_rfl) (by kernel_rfl) (by kernel_rfl) (by decide +kernel) (fun _ _ _ h => h) (fun _ _ _ => trivial) (by rfl) (fun w' hSw => ?_) hS ?_; rotate_left 1; (focus (have z0 := hSw.cell c0 (show ¬ b = w.heap.size by omega); have z1 := hSw.cell c1 (show ¬ b = w.heap.size by omega); have z2 := hSw.cell d0 (show ¬ b = w.heap.size by omega); have z3 := hSw.cell d1 (show ¬ b = w.heap.size by omega); have z4 := hSw.cell e0 (show ¬ g = w.heap.size by omega); have z5 := hSw.cell e1 (show ¬ g = w.heap.size by omega); go_simp; try with_reducible rfl)); simp only [Act.put, List.setIfInBounds_toArray, List.set_cons_zero, List.set_cons_succ])
      | (refine wpAnyHIn_take 12 (v := ?_) rfl (by kernel_rfl) (by kernel_rfl) (by kernel_rfl) (by decide +kernel) (fun _ _ _ h => h) (fun _ _ _ => trivial) (by rfl) (fun w' hSw => ?_) hS ?_; rotate_left 1; (focus (have z0 := hSw.cell c0 (show ¬ b = w.heap.size by omega); have z1 := hSw.cell c1 (show ¬ b = w.heap.size by omega); have z2 := hSw.cell d0 (show ¬ b = w.heap.size by omega); have z3 := hSw.cell d1 (show ¬ b = w.heap.size by omega); have z4 := hSw.cell e0 (show ¬ g = w.heap.size by omega); have z5 := hSw.cell e1 (show ¬ g = w.heap.size by omega); go_simp; try with_reducible rfl)); simp only [Act.put, List.setIfInBounds_toArray, List.set_cons_zero, List.set_cons_succ]))
    refine wpAnyHIn_ready [13] (by kernel_rfl) (by simp) ?_
    refine AllHIn.cons rfl (by rfl) (fun K hK => ?_) AllHIn.nil
    go_simp
    refine ⟨trivial, ?_⟩
    refine (callsIn_wide.2 (CB.out _ (GG.out.trans hG))).mono ?_
    rintro e w3 ⟨rfl, g3⟩
    have hS := hS.trans (Wx.of_gr g3)
    have hG := hG.trans g3
    refine hK.out _ _ hS ?_
    clear hK K
    obtain ⟨k0, k1, k2, k3, k4, k5⟩ := B1.out.gr hG
    obtain ⟨z0, z1, z2, _⟩ := Box3.put (show Box3 w3 w.heap.size 0 0 0 from ⟨k0, k1, k2, k3, k4, k5⟩) rA rB rE
    have GF := (((GG.out.trans hG).setAt (Nat.le_refl _) (j := 0) (.int .i64 rA)).setAt (Nat.le_refl _) (j := 1) (.int .i64 rB)).setAt (Nat.le_refl _) (j := 2) (.int .i64 rE)
    refine wpAnyHIn_ready [14] (by kernel_rfl) (by simp) ?_
    refine AllHIn.cons rfl (by rfl) (fun K hK => ?_) AllHIn.nil
    go_simp
    refine hK.out _ _ (((hS.set rfl 0 _).set rfl 1 _).set rfl 2 _) ?_
    clear hK K
    refine wpAnyHIn_done (by kernel_rfl) ?_ _
    go_wp2_with fail
    exact bodyPost_ret (v := .agg #[.int .i64 rA, .int .i64 rB, .int .i64 rE]) (by simp [results, Try.results77, go_sem, z0, z1, z2]) rfl ⟨rfl, GF⟩
  · have hne : p ≠ q := fun h => by subst h; omega
    have hac : X p ≠ X s := by omega
    rw [e] at HT ⊢
    have HT := Lib.hid (HT.mono (R' := fun e w' => ∃ g, e = .returned (.tuple #[.slice (some ⟨g, 0, none⟩) 3 3, .agg #[.int .i64 tN, .int .i64 tD]]) ∧ HxW (g, [p, q, s]) w' ∧ Gr (w.alloc (.cells #[.int .i64 0, .int .i64 0, .int .i64 0] 37)) w') (by
      rintro e w' ⟨v, rfl, hv, g'⟩
      rcases hv with ⟨h, _⟩ | ⟨_, g, rfl, hx'⟩
      · cases h
      · exact ⟨g, rfl, hx', g'⟩))
    have AX := (axis3 V.ok hp hq hs h1 h2 T (A := (thL X Y p s).A) (B := (thL X Y p s).B) (D := (thL X Y p s).D) rfl rfl rfl rfl).2.2
    have IL : InL (thL X Y p s).A (thL X Y p s).B (thL X Y p s).D := th_in (V.ok p hp) (V.ok s hs) hac
    have CT := Lib.hid (fun w' => through_any (X p) (Y p) (X s) (Y s) w' (V.ok p hp) (V.ok s hs) hac)
    have CR := Lib.hid (fun w' => rest_any (X q) (Y q) (thL X Y p s).A (thL X Y p s).B (thL X Y p s).D w' (V.ok q hq) IL)
    have EA := Lib.hid (show axL n X Y [p, q, s] = mkL (2 * (thL X Y p s).A) (2 * (thL X Y p s).B + rs (X q) (Y q) (thL X Y p s).A (thL X Y p s).B (thL X Y p s).D) (2 * (thL X Y p s).D) from rfl)
    have ET := Lib.hid (show thA (X p) (Y p) (X s) (Y s) = (thL X Y p s).A ∧ thB (X p) (Y p) (X s) (Y s) = (thL X Y p s).B ∧ thD (X p) (Y p) (X s) (Y s) = (thL X Y p s).D from ⟨rfl, rfl, rfl⟩)
    rw [ET.out.1, ET.out.2.1, ET.out.2.2] at CT
    rw [EA.out]
    clear hr V hcc htN htD h1 h2 e EA ET HV T IL hac
    generalize (thL X Y p s).A = A at *
    generalize (thL X Y p s).B = B at *
    generalize (thL X Y p s).D = D at *
    generalize rs (X q) (Y q) A B D = r at *
    have CM := Lib.hid (fun w' => made_any (2 * A) (2 * B + r) (2 * D) w' (by unfold Sz; omega) (by unfold Sz; omega) (by unfold Sz; omega) (by omega))
    have EM := Lib.hid (show mkL (2 * A) (2 * B + r) (2 * D) = ⟨mkA (2 * A) (2 * B + r) (2 * D), mkB (2 * A) (2 * B + r) (2 * D), mkD (2 * A) (2 * B + r) (2 * D)⟩ from rfl)
    rw [EM.out]
    simp only
    have v1 : IntKind.i64.wrap (2 * A) = 2 * A := IntWalk.i64_in _ (by omega)
    have v2 : IntKind.i64.wrap (2 * B) = 2 * B := IntWalk.i64_in _ (by omega)
    have v3 : IntKind.i64.wrap (2 * B + r) = 2 * B + r := IntWalk.i64_in _ (by omega)
    have v4 : IntKind.i64.wrap (2 * D) = 2 * D := IntWalk.i64_in _ (by omega)
    clear AX EM
    generalize mkA (2 * A) (2 * B + r) (2 * D) = rA at *
    generalize mkB (2 * A) (2 * B + r) (2 * D) = rB at *
    generalize mkD (2 * A) (2 * B + r) (2 * D) = rE at *
    go_enter Try.func77, Try.ntmps77
    go_wp2_with (go_at_call 63; refine (HT.out).mono ?_; rintro e w1 ⟨g, rfl, hxw, g1⟩; have G1 := Lib.hid (g1.alloc (.cells #[.int .i64 tN, .int .i64 tD] 27)); have XW := Lib.hid hxw; clear hxw)
    have hc := HC.out _ (G0.out.trans G1.out)
    have e0 : (w1.alloc (.cells #[.int .i64 tN, .int .i64 tD] 27)).cell? ⟨g, 0, none⟩ = some (.int .i64 (p : Nat)) := ((Gr.refl w1).alloc _).cell (XW.out 0 (by simp))
    have e1 : (w1.alloc (.cells #[.int .i64 tN, .int .i64 tD] 27)).cell? ⟨g, 1, none⟩ = some (.int .i64 (q : Nat)) := ((Gr.refl w1).alloc _).cell (XW.out 1 (by simp))
    have e2 : (w1.alloc (.cells #[.int .i64 tN, .int .i64 tD] 27)).cell? ⟨g, 2, none⟩ = some (.int .i64 (s : Nat)) := ((Gr.refl w1).alloc _).cell (XW.out 2 (by simp))
    generalize hW1 : w1.alloc (.cells #[.int .i64 tN, .int .i64 tD] 27) = W1 at *
    have B1 := Lib.hid (B0.out.gr G1.out)
    have GG := Lib.hid (G0.out.trans G1.out)
    have lb : b < w.heap.size := LB
    have gne : ¬ g = w.heap.size := fun h => by
      subst h
      have h1 := e0.symm.trans B1.out.1
      have h2 := e1.symm.trans B1.out.2.1
      simp at h1 h2
      omega
    obtain ⟨c0, c1⟩ := hc p hp
    obtain ⟨d0, d1⟩ := hc q hq
    obtain ⟨f0, f1⟩ := hc s hs
    have ps : (s : Int) < n := by omega
    have pp : (p : Int) < n := by omega
    have pq : (q : Int) < n := by omega
    clear hc HT g1 hW1 XW G1
    refine (wpIn_wide (n := 3)).1 ?_
    refine wpIn_region_held (fun w' => Gr W1 w') 15 (by kernel_rfl) rfl rfl ?_
    have hS : Gr W1 W1.drew := (Gr.refl W1).drew
    iterate 12 (first
      | (refine wpAnyHIn_take 0 (v := ?_) rfl (by kernel_rfl) (by kernel_rfl) (by kernel_rfl) (by decide +kernel) (fun _ _ _ h => h) (fun _ _ _ => trivial) (by rfl) (fun w' hSw => ?_) hS ?_; rotate_left 1; (focus (have z0 := hSw.cell c0; have z1 := hSw.cell c1; have z2 := hSw.cell f0; have z3 := hSw.cell f1; have z4 := hSw.cell e0; have z5 := hSw.cell e1; have z6 := hSw.cell e2; go_simp; try with_reducible rfl)); simp only [Act.put, List.setIfInBounds_toArray, List.set_cons_zero, List.set_cons_succ])
      | (refine wpAnyHIn_take 1 (v := ?_) rfl (by kernel_rfl) (by kernel_rfl) (by kernel_rfl) (by decide +kernel) (fun _ _ _ h => h) (fun _ _ _ => trivial) (by rfl) (fun w' hSw => ?_) hS ?_; rotate_left 1; (focus (have z0 := hSw.cell c0; have z1 := hSw.cell c1; have z2 := hSw.cell f0; have z3 := hSw.cell f1; have z4 := hSw.cell e0; have z5 := hSw.cell e1; have z6 := hSw.cell e2; go_simp; try with_reducible rfl)); simp only [Act.put, List.setIfInBounds_toArray, List.set_cons_zero, List.set_cons_succ])
      | (refine wpAnyHIn_take 2 (v := ?_) rfl (by kernel_rfl) (by kernel_rfl) (by kernel_rfl) (by decide +kernel) (fun _ _ _ h => h) (fun _ _ _ => trivial) (by rfl) (fun w' hSw => ?_) hS ?_; rotate_left 1; (focus (have z0 := hSw.cell c0; have z1 := hSw.cell c1; have z2 := hSw.cell f0; have z3 := hSw.cell f1; have z4 := hSw.cell e0; have z5 := hSw.cell e1; have z6 := hSw.cell e2; go_simp; try with_reducible rfl)); simp only [Act.put, List.setIfInBounds_toArray, List.set_cons_zero, List.set_cons_succ])
      | (refine wpAnyHIn_take 3 (v := ?_) rfl (by kernel_rfl) (by kernel_rfl) (by kernel_rfl) (by decide +kernel) (fun _ _ _ h => h) (fun _ _ _ => trivial) (by rfl) (fun w' hSw => ?_) hS ?_; rotate_left 1; (focus (have z0 := hSw.cell c0; have z1 := hSw.cell c1; have z2 := hSw.cell f0; have z3 := hSw.cell f1; have z4 := hSw.cell e0; have z5 := hSw.cell e1; have z6 := hSw.cell e2; go_simp; try with_reducible rfl)); simp only [Act.put, List.setIfInBounds_toArray, List.set_cons_zero, List.set_cons_succ])
      | (refine wpAnyHIn_take 4 (v := ?_) rfl (by kernel_rfl) (by kernel_rfl) (by kernel_rfl) (by decide +kernel) (fun _ _ _ h => h) (fun _ _ _ => trivial) (by rfl) (fun w' hSw => ?_) hS ?_; rotate_left 1; (focus (have z0 := hSw.cell c0; have z1 := hSw.cell c1; have z2 := hSw.cell f0; have z3 := hSw.cell f1; have z4 := hSw.cell e0; have z5 := hSw.cell e1; have z6 := hSw.cell e2; go_simp; try with_reducible rfl)); simp only [Act.put, List.setIfInBounds_toArray, List.set_cons_zero, List.set_cons_succ])
      | (refine wpAnyHIn_take 5 (v := ?_) rfl (by kernel_rfl) (by kernel_rfl) (by kernel_rfl) (by decide +kernel) (fun _ _ _ h => h) (fun _ _ _ => trivial) (by rfl) (fun w' hSw => ?_) hS ?_; rotate_left 1; (focus (have z0 := hSw.cell c0; have z1 := hSw.cell c1; have z2 := hSw.cell f0; have z3 := hSw.cell f1; have z4 := hSw.cell e0; have z5 := hSw.cell e1; have z6 := hSw.cell e2; go_simp; try with_reducible rfl)); simp only [Act.put, List.setIfInBounds_toArray, List.set_cons_zero, List.set_cons_succ])
      | (refine wpAnyHIn_take 6 (v := ?_) rfl (by kernel_rfl) (by kernel_rfl) (by kernel_rfl) (by decide +kernel) (fun _ _ _ h => h) (fun _ _ _ => trivial) (by rfl) (fun w' hSw => ?_) hS ?_; rotate_left 1; (focus (have z0 := hSw.cell c0; have z1 := hSw.cell c1; have z2 := hSw.cell f0; have z3 := hSw.cell f1; have z4 := hSw.cell e0; have z5 := hSw.cell e1; have z6 := hSw.cell e2; go_simp; try with_reducible rfl)); simp only [Act.put, List.setIfInBounds_toArray, List.set_cons_zero, List.set_cons_succ])
      | (refine wpAnyHIn_take 7 (v := ?_) rfl (by kernel_rfl) (by kernel_rfl) (by kernel_rfl) (by decide +kernel) (fun _ _ _ h => h) (fun _ _ _ => trivial) (by rfl) (fun w' hSw => ?_) hS ?_; rotate_left 1; (focus (have z0 := hSw.cell c0; have z1 := hSw.cell c1; have z2 := hSw.cell f0; have z3 := hSw.cell f1; have z4 := hSw.cell e0; have z5 := hSw.cell e1; have z6 := hSw.cell e2; go_simp; try with_reducible rfl)); simp only [Act.put, List.setIfInBounds_toArray, List.set_cons_zero, List.set_cons_succ])
      | (refine wpAnyHIn_take 8 (v := ?_) rfl (by kernel_rfl) (by kernel_rfl) (by kernel_rfl) (by decide +kernel) (fun _ _ _ h => h) (fun _ _ _ => trivial) (by rfl) (fun w' hSw => ?_) hS ?_; rotate_left 1; (focus (have z0 := hSw.cell c0; have z1 := hSw.cell c1; have z2 := hSw.cell f0; have z3 := hSw.cell f1; have z4 := hSw.cell e0; have z5 := hSw.cell e1; have z6 := hSw.cell e2; go_simp; try with_reducible rfl)); simp only [Act.put, List.setIfInBounds_toArray, List.set_cons_zero, List.set_cons_succ])
      | (refine wpAnyHIn_take 9 (v := ?_) rfl (by kernel_rfl) (by kernel_rfl) (by kernel_rfl) (by decide +kernel) (fun _ _ _ h => h) (fun _ _ _ => trivial) (by rfl) (fun w' hSw => ?_) hS ?_; rotate_left 1; (focus (have z0 := hSw.cell c0; have z1 := hSw.cell c1; have z2 := hSw.cell f0; have z3 := hSw.cell f1; have z4 := hSw.cell e0; have z5 := hSw.cell e1; have z6 := hSw.cell e2; go_simp; try with_reducible rfl)); simp only [Act.put, List.setIfInBounds_toArray, List.set_cons_zero, List.set_cons_succ])
      | (refine wpAnyHIn_take 10 (v := ?_) rfl (by kernel_rfl) (by kernel_rfl) (by kernel_rfl) (by decide +kernel) (fun _ _ _ h => h) (fun _ _ _ => trivial) (by rfl) (fun w' hSw => ?_) hS ?_; rotate_left 1; (focus (have z0 := hSw.cell c0; have z1 := hSw.cell c1; have z2 := hSw.cell f0; have z3 := hSw.cell f1; have z4 := hSw.cell e0; have z5 := hSw.cell e1; have z6 := hSw.cell e2; go_simp; try with_reducible rfl)); simp only [Act.put, List.setIfInBounds_toArray, List.set_cons_zero, List.set_cons_succ])
      | (refine wpAnyHIn_take 11 (v := ?_) rfl (by kernel_rfl) (by kernel_rfl) (by kernel_rfl) (by decide +kernel) (fun _ _ _ h => h) (fun _ _ _ => trivial) (by rfl) (fun w' hSw => ?_) hS ?_; rotate_left 1; (focus (have z0 := hSw.cell c0; have z1 := hSw.cell c1; have z2 := hSw.cell f0; have z3 := hSw.cell f1; have z4 := hSw.cell e0; have z5 := hSw.cell e1; have z6 := hSw.cell e2; go_simp; try with_reducible rfl)); simp only [Act.put, List.setIfInBounds_toArray, List.set_cons_zero, List.set_cons_succ]))
    refine wpAnyHIn_ready [12, 13] (by kernel_rfl) (by simp) ?_
    refine AllHIn.cons rfl (by rfl) (fun K hK => ?_) (AllHIn.cons rfl (by rfl) (fun K hK => ?_) AllHIn.nil)
    · go_simp
      refine ⟨trivial, ?_⟩
      refine (callsIn_wide.2 (CT.out _)).mono ?_
      rintro e w3 ⟨rfl, g3⟩
      have hS : Gr W1 w3 := hS.trans g3
      refine hK.out _ _ hS ?_
      clear hK K
      refine wpAnyHIn_ready [13] (by kernel_rfl) (by simp) ?_
      refine AllHIn.cons rfl (by rfl) (fun K hK => ?_) AllHIn.nil
      go_simp
      refine hK.out _ _ (hS.alloc _) ?_
      clear hK K
      refine wpAnyHIn_ready [14] (by kernel_rfl) (by simp) ?_
      refine AllHIn.cons rfl (by rfl) (fun K hK => ?_) AllHIn.nil
      go_simp
      refine hK.out _ _ (hS.alloc (.cells #[.int .i64 A, .int .i64 B, .int .i64 D] 37)) ?_
      clear hK K
      have bx : Box3 (w3.alloc (.cells #[.int .i64 A, .int .i64 B, .int .i64 D] 37)) w3.heap.size A B D := Box3.new rfl
      have N5 : ¬ w3.heap.size = w.heap.size := by have h1 := hS.size; have h2 : w.heap.size < W1.heap.size := World.block_lt_of_cell? W1 _ B1.out.1; omega
      have hS := hS.alloc (.cells #[.int .i64 A, .int .i64 B, .int .i64 D] 37)
      refine wpAnyHIn_done (by kernel_rfl) ?_ _
      go_wp2_with fail
      have B1 := Lib.hid (B1.out.gr hS)
      have GG := Lib.hid (GG.out.trans hS)
      obtain ⟨x0, x1, x2, _, _, _⟩ := bx
      have e1 := hS.cell e1
      have d0 := hS.cell d0
      have d1 := hS.cell d1
      clear hS c0 c1 f0 f1 e0 e2
      generalize w3.heap.size = b5 at *
      generalize w3.alloc (.cells #[.int .i64 A, .int .i64 B, .int .i64 D] 37) = W1 at *
      refine (wpIn_wide (n := 3)).1 ?_
      refine wpIn_region_held (fun w' => Wx (fun k => k = w.heap.size) W1 w') 20 (by kernel_rfl) rfl rfl ?_
      have hS : Wx (fun k => k = w.heap.size) W1 W1.drew := (Wx.refl _ _).drew
      have hG : Gr W1 W1.drew := (Gr.refl W1).drew
      iterate 13 (first
        | (refine wpAnyHIn_take 0 (v := ?_) rfl (by kernel_rfl) (by kernel_rfl) (by kernel_rfl) (by decide +kernel) (fun _ _ _ h => h) (fun _ _ _ => trivial) (by rfl) (fun w' hSw => ?_) hS ?_; rotate_left 1; (focus (have z0 := hSw.cell x0 (show ¬ b5 = w.heap.size by omega); have z1 := hSw.cell x1 (show ¬ b5 = w.heap.size by omega); have z2 := hSw.cell x2 (show ¬ b5 = w.heap.size by omega); have z3 := hSw.cell d0 (show ¬ b = w.heap.size by omega); have z4 := hSw.cell d1 (show ¬ b = w.heap.size by omega); have z5 := hSw.cell e1 (show ¬ g = w.heap.size by omega); go_simp; try with_reducible rfl)); simp only [Act.put, List.setIfInBounds_toArray, List.set_cons_zero, List.set_cons_succ])
        | (refine wpAnyHIn_take 1 (v := ?_) rfl (by kernel_rfl) (by kernel_rfl) (by kernel_rfl) (by decide +kernel) (fun _ _ _ h => h) (fun _ _ _ => trivial) (by rfl) (fun w' hSw => ?_) hS ?_; rotate_left 1; (focus (have z0 := hSw.cell x0 (show ¬ b5 = w.heap.size by omega); have z1 := hSw.cell x1 (show ¬ b5 = w.heap.size by omega); have z2 := hSw.cell x2 (show ¬ b5 = w.heap.size by omega); have z3 := hSw.cell d0 (show ¬ b = w.heap.size by omega); have z4 := hSw.cell d1 (show ¬ b = w.heap.size by omega); have z5 := hSw.cell e1 (show ¬ g = w.heap.size by omega); go_simp; try with_reducible rfl)); simp only [Act.put, List.setIfInBounds_toArray, List.set_cons_zero, List.set_cons_succ])
        | (refine wpAnyHIn_take 2 (v := ?_) rfl (by kernel_rfl) (by kernel_rfl) (by kernel_rfl) (by decide +kernel) (fun _ _ _ h => h) (fun _ _ _ => trivial) (by rfl) (fun w' hSw => ?_) hS ?_; rotate_left 1; (focus (have z0 := hSw.cell x0 (show ¬ b5 = w.heap.size by omega); have z1 := hSw.cell x1 (show ¬ b5 = w.heap.size by omega); have z2 := hSw.cell x2 (show ¬ b5 = w.heap.size by omega); have z3 := hSw.cell d0 (show ¬ b = w.heap.size by omega); have z4 := hSw.cell d1 (show ¬ b = w.heap.size by omega); have z5 := hSw.cell e1 (show ¬ g = w.heap.size by omega); go_simp; try with_reducible rfl)); simp only [Act.put, List.setIfInBounds_toArray, List.set_cons_zero, List.set_cons_succ])
        | (refine wpAnyHIn_take 3 (v := ?_) rfl (by kernel_rfl) (by kernel_rfl) (by kernel_rfl) (by decide +kernel) (fun _ _ _ h => h) (fun _ _ _ => trivial) (by rfl) (fun w' hSw => ?_) hS ?_; rotate_left 1; (focus (have z0 := hSw.cell x0 (show ¬ b5 = w.heap.size by omega); have z1 := hSw.cell x1 (show ¬ b5 = w.heap.size by omega); have z2 := hSw.cell x2 (show ¬ b5 = w.heap.size by omega); have z3 := hSw.cell d0 (show ¬ b = w.heap.size by omega); have z4 := hSw.cell d1 (show ¬ b = w.heap.size by omega); have z5 := hSw.cell e1 (show ¬ g = w.heap.size by omega); go_simp; try with_reducible rfl)); simp only [Act.put, List.setIfInBounds_toArray, List.set_cons_zero, List.set_cons_succ])
        | (refine wpAnyHIn_take 4 (v := ?_) rfl (by kernel_rfl) (by kernel_rfl) (by kernel_rfl) (by decide +kernel) (fun _ _ _ h => h) (fun _ _ _ => trivial) (by rfl) (fun w' hSw => ?_) hS ?_; rotate_left 1; (focus (have z0 := hSw.cell x0 (show ¬ b5 = w.heap.size by omega); have z1 := hSw.cell x1 (show ¬ b5 = w.heap.size by omega); have z2 := hSw.cell x2 (show ¬ b5 = w.heap.size by omega); have z3 := hSw.cell d0 (show ¬ b = w.heap.size by omega); have z4 := hSw.cell d1 (show ¬ b = w.heap.size by omega); have z5 := hSw.cell e1 (show ¬ g = w.heap.size by omega); go_simp; try with_reducible rfl)); simp only [Act.put, List.setIfInBounds_toArray, List.set_cons_zero, List.set_cons_succ])
        | (refine wpAnyHIn_take 5 (v := ?_) rfl (by kernel_rfl) (by kernel_rfl) (by kernel_rfl) (by decide +kernel) (fun _ _ _ h => h) (fun _ _ _ => trivial) (by rfl) (fun w' hSw => ?_) hS ?_; rotate_left 1; (focus (have z0 := hSw.cell x0 (show ¬ b5 = w.heap.size by omega); have z1 := hSw.cell x1 (show ¬ b5 = w.heap.size by omega); have z2 := hSw.cell x2 (show ¬ b5 = w.heap.size by omega); have z3 := hSw.cell d0 (show ¬ b = w.heap.size by omega); have z4 := hSw.cell d1 (show ¬ b = w.heap.size by omega); have z5 := hSw.cell e1 (show ¬ g = w.heap.size by omega); go_simp; try with_reducible rfl)); simp only [Act.put, List.setIfInBounds_toArray, List.set_cons_zero, List.set_cons_succ])
        | (refine wpAnyHIn_take 6 (v := ?_) rfl (by kernel_rfl) (by kernel_rfl) (by kernel_rfl) (by decide +kernel) (fun _ _ _ h => h) (fun _ _ _ => trivial) (by rfl) (fun w' hSw => ?_) hS ?_; rotate_left 1; (focus (have z0 := hSw.cell x0 (show ¬ b5 = w.heap.size by omega); have z1 := hSw.cell x1 (show ¬ b5 = w.heap.size by omega); have z2 := hSw.cell x2 (show ¬ b5 = w.heap.size by omega); have z3 := hSw.cell d0 (show ¬ b = w.heap.size by omega); have z4 := hSw.cell d1 (show ¬ b = w.heap.size by omega); have z5 := hSw.cell e1 (show ¬ g = w.heap.size by omega); go_simp; try with_reducible rfl)); simp only [Act.put, List.setIfInBounds_toArray, List.set_cons_zero, List.set_cons_succ])
        | (refine wpAnyHIn_take 7 (v := ?_) rfl (by kernel_rfl) (by kernel_rfl) (by kernel_rfl) (by decide +kernel) (fun _ _ _ h => h) (fun _ _ _ => trivial) (by rfl) (fun w' hSw => ?_) hS ?_; rotate_left 1; (focus (have z0 := hSw.cell x0 (show ¬ b5 = w.heap.size by omega); have z1 := hSw.cell x1 (show ¬ b5 = w.heap.size by omega); have z2 := hSw.cell x2 (show ¬ b5 = w.heap.size by omega); have z3 := hSw.cell d0 (show ¬ b = w.heap.size by omega); have z4 := hSw.cell d1 (show ¬ b = w.heap.size by omega); have z5 := hSw.cell e1 (show ¬ g = w.heap.size by omega); go_simp; try with_reducible rfl)); simp only [Act.put, List.setIfInBounds_toArray, List.set_cons_zero, List.set_cons_succ])
        | (refine wpAnyHIn_take 8 (v := ?_) rfl (by kernel_rfl) (by kernel_rfl) (by kernel_rfl) (by decide +kernel) (fun _ _ _ h => h) (fun _ _ _ => trivial) (by rfl) (fun w' hSw => ?_) hS ?_; rotate_left 1; (focus (have z0 := hSw.cell x0 (show ¬ b5 = w.heap.size by omega); have z1 := hSw.cell x1 (show ¬ b5 = w.heap.size by omega); have z2 := hSw.cell x2 (show ¬ b5 = w.heap.size by omega); have z3 := hSw.cell d0 (show ¬ b = w.heap.size by omega); have z4 := hSw.cell d1 (show ¬ b = w.heap.size by omega); have z5 := hSw.cell e1 (show ¬ g = w.heap.size by omega); go_simp; try with_reducible rfl)); simp only [Act.put, List.setIfInBounds_toArray, List.set_cons_zero, List.set_cons_succ])
        | (refine wpAnyHIn_take 9 (v := ?_) rfl (by kernel_rfl) (by kernel_rfl) (by kernel_rfl) (by decide +kernel) (fun _ _ _ h => h) (fun _ _ _ => trivial) (by rfl) (fun w' hSw => ?_) hS ?_; rotate_left 1; (focus (have z0 := hSw.cell x0 (show ¬ b5 = w.heap.size by omega); have z1 := hSw.cell x1 (show ¬ b5 = w.heap.size by omega); have z2 := hSw.cell x2 (show ¬ b5 = w.heap.size by omega); have z3 := hSw.cell d0 (show ¬ b = w.heap.size by omega); have z4 := hSw.cell d1 (show ¬ b = w.heap.size by omega); have z5 := hSw.cell e1 (show ¬ g = w.heap.size by omega); go_simp; try with_reducible rfl)); simp only [Act.put, List.setIfInBounds_toArray, List.set_cons_zero, List.set_cons_succ])
        | (refine wpAnyHIn_take 10 (v := ?_) rfl (by kernel_rfl) (by kernel_rfl) (by kernel_rfl) (by decide +kernel) (fun _ _ _ h => h) (fun _ _ _ => trivial) (by rfl) (fun w' hSw => ?_) hS ?_; rotate_left 1; (focus (have z0 := hSw.cell x0 (show ¬ b5 = w.heap.size by omega); have z1 := hSw.cell x1 (show ¬ b5 = w.heap.size by omega); have z2 := hSw.cell x2 (show ¬ b5 = w.heap.size by omega); have z3 := hSw.cell d0 (show ¬ b = w.heap.size by omega); have z4 := hSw.cell d1 (show ¬ b = w.heap.size by omega); have z5 := hSw.cell e1 (show ¬ g = w.heap.size by omega); go_simp; try with_reducible rfl)); simp only [Act.put, List.setIfInBounds_toArray, List.set_cons_zero, List.set_cons_succ])
        | (refine wpAnyHIn_take 11 (v := ?_) rfl (by kernel_rfl) (by kernel_rfl) (by kernel_rfl) (by decide +kernel) (fun _ _ _ h => h) (fun _ _ _ => trivial) (by rfl) (fun w' hSw => ?_) hS ?_; rotate_left 1; (focus (have z0 := hSw.cell x0 (show ¬ b5 = w.heap.size by omega); have z1 := hSw.cell x1 (show ¬ b5 = w.heap.size by omega); have z2 := hSw.cell x2 (show ¬ b5 = w.heap.size by omega); have z3 := hSw.cell d0 (show ¬ b = w.heap.size by omega); have z4 := hSw.cell d1 (show ¬ b = w.heap.size by omega); have z5 := hSw.cell e1 (show ¬ g = w.heap.size by omega); go_simp; try with_reducible rfl)); simp only [Act.put, List.setIfInBounds_toArray, List.set_cons_zero, List.set_cons_succ])
        | (refine wpAnyHIn_take 12 (v := ?_) rfl (by kernel_rfl) (by kernel_rfl) (by kernel_rfl) (by decide +kernel) (fun _ _ _ h => h) (fun _ _ _ => trivial) (by rfl) (fun w' hSw => ?_) hS ?_; rotate_left 1; (focus (have z0 := hSw.cell x0 (show ¬ b5 = w.heap.size by omega); have z1 := hSw.cell x1 (show ¬ b5 = w.heap.size by omega); have z2 := hSw.cell x2 (show ¬ b5 = w.heap.size by omega); have z3 := hSw.cell d0 (show ¬ b = w.heap.size by omega); have z4 := hSw.cell d1 (show ¬ b = w.heap.size by omega); have z5 := hSw.cell e1 (show ¬ g = w.heap.size by omega); go_simp; try with_reducible rfl)); simp only [Act.put, List.setIfInBounds_toArray, List.set_cons_zero, List.set_cons_succ]))
      iterate 3 (first
        | (refine wpAnyHIn_take 15 (v := ?_) rfl (by kernel_rfl) (by kernel_rfl) (by kernel_rfl) (by decide +kernel) (fun _ _ _ h => h) (fun _ _ _ => trivial) (by rfl) (fun w' hSw => ?_) hS ?_; rotate_left 1; (focus (have z0 := hSw.cell x0 (show ¬ b5 = w.heap.size by omega); have z1 := hSw.cell x1 (show ¬ b5 = w.heap.size by omega); have z2 := hSw.cell x2 (show ¬ b5 = w.heap.size by omega); have z3 := hSw.cell d0 (show ¬ b = w.heap.size by omega); have z4 := hSw.cell d1 (show ¬ b = w.heap.size by omega); have z5 := hSw.cell e1 (show ¬ g = w.heap.size by omega); go_simp; try with_reducible rfl)); simp only [Act.put, List.setIfInBounds_toArray, List.set_cons_zero, List.set_cons_succ])
        | (refine wpAnyHIn_take 16 (v := ?_) rfl (by kernel_rfl) (by kernel_rfl) (by kernel_rfl) (by decide +kernel) (fun _ _ _ h => h) (fun _ _ _ => trivial) (by rfl) (fun w' hSw => ?_) hS ?_; rotate_left 1; (focus (have z0 := hSw.cell x0 (show ¬ b5 = w.heap.size by omega); have z1 := hSw.cell x1 (show ¬ b5 = w.heap.size by omega); have z2 := hSw.cell x2 (show ¬ b5 = w.heap.size by omega); have z3 := hSw.cell d0 (show ¬ b = w.heap.size by omega); have z4 := hSw.cell d1 (show ¬ b = w.heap.size by omega); have z5 := hSw.cell e1 (show ¬ g = w.heap.size by omega); go_simp; try with_reducible rfl)); simp only [Act.put, List.setIfInBounds_toArray, List.set_cons_zero, List.set_cons_succ])
        | (refine wpAnyHIn_take 17 (v := ?_) rfl (by kernel_rfl) (by kernel_rfl) (by kernel_rfl) (by decide +kernel) (fun _ _ _ h => h) (fun _ _ _ => trivial) (by rfl) (fun w' hSw => ?_) hS ?_; rotate_left 1; (focus (have z0 := hSw.cell x0 (show ¬ b5 = w.heap.size by omega); have z1 := hSw.cell x1 (show ¬ b5 = w.heap.size by omega); have z2 := hSw.cell x2 (show ¬ b5 = w.heap.size by omega); have z3 := hSw.cell d0 (show ¬ b = w.heap.size by omega); have z4 := hSw.cell d1 (show ¬ b = w.heap.size by omega); have z5 := hSw.cell e1 (show ¬ g = w.heap.size by omega); go_simp; try with_reducible rfl)); simp only [Act.put, List.setIfInBounds_toArray, List.set_cons_zero, List.set_cons_succ]))
      refine wpAnyHIn_ready [13] (by kernel_rfl) (by simp) ?_
      refine AllHIn.cons rfl (by rfl) (fun K hK => ?_) AllHIn.nil
      go_simp
      refine ⟨trivial, ?_⟩
      refine (callsIn_wide.2 (CR.out _)).mono ?_
      rintro e w3 ⟨rfl, g3⟩
      have hS := hS.trans (Wx.of_gr g3)
      have hG := hG.trans g3
      refine hK.out _ _ hS ?_
      clear hK K
      iterate 1 (first
        | (refine wpAnyHIn_take 14 (v := ?_) rfl (by kernel_rfl) (by kernel_rfl) (by kernel_rfl) (by decide +kernel) (fun _ _ _ h => h) (fun _ _ _ => trivial) (by rfl) (fun w' hSw => ?_) hS ?_; rotate_left 1; (focus (skip; go_simp; try with_reducible rfl)); simp only [Act.put, List.setIfInBounds_toArray, List.set_cons_zero, List.set_cons_succ]))
      refine wpAnyHIn_ready [18] (by kernel_rfl) (by simp) ?_
      refine AllHIn.cons rfl (by rfl) (fun K hK => ?_) AllHIn.nil
      go_simp
      refine ⟨trivial, ?_⟩
      refine (callsIn_wide.2 (CM.out _)).mono ?_
      rintro e w3 ⟨rfl, g3⟩
      have hS := hS.trans (Wx.of_gr g3)
      have hG := hG.trans g3
      refine hK.out _ _ hS ?_
      clear hK K
      obtain ⟨k0, k1, k2, k3, k4, k5⟩ := B1.out.gr hG
      obtain ⟨z0, z1, z2, _⟩ := Box3.put (show Box3 w3 w.heap.size 0 0 0 from ⟨k0, k1, k2, k3, k4, k5⟩) rA rB rE
      have GF := (((GG.out.trans hG).setAt (Nat.le_refl _) (j := 0) (.int .i64 rA)).setAt (Nat.le_refl _) (j := 1) (.int .i64 rB)).setAt (Nat.le_refl _) (j := 2) (.int .i64 rE)
      refine wpAnyHIn_ready [19] (by kernel_rfl) (by simp) ?_
      refine AllHIn.cons rfl (by rfl) (fun K hK => ?_) AllHIn.nil
      go_simp
      refine hK.out _ _ (((hS.set rfl 0 _).set rfl 1 _).set rfl 2 _) ?_
      clear hK K
      refine wpAnyHIn_done (by kernel_rfl) ?_ _
      go_wp2_with fail
      exact bodyPost_ret (v := .agg #[.int .i64 rA, .int .i64 rB, .int .i64 rE]) (by simp [results, Try.results77, go_sem, z0, z1, z2]) rfl ⟨rfl, GF⟩
    · go_simp
      have hS := hS.alloc (.cells #[.int .i64 0, .int .i64 0, .int .i64 0] 37)
      refine hK.out _ _ hS ?_
      clear hK K
      refine wpAnyHIn_ready [12] (by kernel_rfl) (by simp) ?_
      refine AllHIn.cons rfl (by rfl) (fun K hK => ?_) AllHIn.nil
      go_simp
      refine ⟨trivial, ?_⟩
      refine (callsIn_wide.2 (CT.out _)).mono ?_
      rintro e w3 ⟨rfl, g3⟩
      have hb3 := Box3.gr (Box3.new (w := W1) (e := 37) (x := 0) (y := 0) (z := 0) rfl) (((Gr.refl _).drew).trans g3)
      obtain ⟨y0, y1, y2, y3, y4, y5⟩ := hb3
      have hS : Gr W1 w3 := hS.trans g3
      refine hK.out _ _ hS ?_
      clear hK K
      refine wpAnyHIn_ready [14] (by kernel_rfl) (by simp) ?_
      refine AllHIn.cons rfl (by rfl) (fun K hK => ?_) AllHIn.nil
      go_simp
      have hS := ((hS.setAt (Nat.le_refl _) (j := 0) (.int .i64 A)).setAt (Nat.le_refl _) (j := 1) (.int .i64 B)).setAt (Nat.le_refl _) (j := 2) (.int .i64 D)
      refine hK.out _ _ hS ?_
      clear hK K
      have bx := Box3.put (show Box3 w3 W1.heap.size 0 0 0 from ⟨y0, y1, y2, y3, y4, y5⟩) A B D
      have N5 : ¬ W1.heap.size = w.heap.size := by have h2 : w.heap.size < W1.heap.size := World.block_lt_of_cell? W1 _ B1.out.1; omega
      refine wpAnyHIn_done (by kernel_rfl) ?_ _
      go_wp2_with fail
      have B1 := Lib.hid (B1.out.gr hS)
      have GG := Lib.hid (GG.out.trans hS)
      obtain ⟨x0, x1, x2, _, _, _⟩ := bx
      have e1 := hS.cell e1
      have d0 := hS.cell d0
      have d1 := hS.cell d1
      clear hS c0 c1 f0 f1 e0 e2
      generalize W1.heap.size = b5 at *
      generalize ((w3.setCell ⟨b5, 0, none⟩ (.int .i64 A)).setCell ⟨b5, 1, none⟩ (.int .i64 B)).setCell ⟨b5, 2, none⟩ (.int .i64 D) = W1 at *
      refine (wpIn_wide (n := 3)).1 ?_
      refine wpIn_region_held (fun w' => Wx (fun k => k = w.heap.size) W1 w') 20 (by kernel_rfl) rfl rfl ?_
      have hS : Wx (fun k => k = w.heap.size) W1 W1.drew := (Wx.refl _ _).drew
      have hG : Gr W1 W1.drew := (Gr.refl W1).drew
      iterate 13 (first
        | (refine wpAnyHIn_take 0 (v := ?_) rfl (by kernel_rfl) (by kernel_rfl) (by kernel_rfl) (by decide +kernel) (fun _ _ _ h => h) (fun _ _ _ => trivial) (by rfl) (fun w' hSw => ?_) hS ?_; rotate_left 1; (focus (have z0 := hSw.cell x0 (show ¬ b5 = w.heap.size by omega); have z1 := hSw.cell x1 (show ¬ b5 = w.heap.size by omega); have z2 := hSw.cell x2 (show ¬ b5 = w.heap.size by omega); have z3 := hSw.cell d0 (show ¬ b = w.heap.size by omega); have z4 := hSw.cell d1 (show ¬ b = w.heap.size by omega); have z5 := hSw.cell e1 (show ¬ g = w.heap.size by omega); go_simp; try with_reducible rfl)); simp only [Act.put, List.setIfInBounds_toArray, List.set_cons_zero, List.set_cons_succ])
        | (refine wpAnyHIn_take 1 (v := ?_) rfl (by kernel_rfl) (by kernel_rfl) (by kernel_rfl) (by decide +kernel) (fun _ _ _ h => h) (fun _ _ _ => trivial) (by rfl) (fun w' hSw => ?_) hS ?_; rotate_left 1; (focus (have z0 := hSw.cell x0 (show ¬ b5 = w.heap.size by omega); have z1 := hSw.cell x1 (show ¬ b5 = w.heap.size by omega); have z2 := hSw.cell x2 (show ¬ b5 = w.heap.size by omega); have z3 := hSw.cell d0 (show ¬ b = w.heap.size by omega); have z4 := hSw.cell d1 (show ¬ b = w.heap.size by omega); have z5 := hSw.cell e1 (show ¬ g = w.heap.size by omega); go_simp; try with_reducible rfl)); simp only [Act.put, List.setIfInBounds_toArray, List.set_cons_zero, List.set_cons_succ])
        | (refine wpAnyHIn_take 2 (v := ?_) rfl (by kernel_rfl) (by kernel_rfl) (by kernel_rfl) (by decide +kernel) (fun _ _ _ h => h) (fun _ _ _ => trivial) (by rfl) (fun w' hSw => ?_) hS ?_; rotate_left 1; (focus (have z0 := hSw.cell x0 (show ¬ b5 = w.heap.size by omega); have z1 := hSw.cell x1 (show ¬ b5 = w.heap.size by omega); have z2 := hSw.cell x2 (show ¬ b5 = w.heap.size by omega); have z3 := hSw.cell d0 (show ¬ b = w.heap.size by omega); have z4 := hSw.cell d1 (show ¬ b = w.heap.size by omega); have z5 := hSw.cell e1 (show ¬ g = w.heap.size by omega); go_simp; try with_reducible rfl)); simp only [Act.put, List.setIfInBounds_toArray, List.set_cons_zero, List.set_cons_succ])
        | (refine wpAnyHIn_take 3 (v := ?_) rfl (by kernel_rfl) (by kernel_rfl) (by kernel_rfl) (by decide +kernel) (fun _ _ _ h => h) (fun _ _ _ => trivial) (by rfl) (fun w' hSw => ?_) hS ?_; rotate_left 1; (focus (have z0 := hSw.cell x0 (show ¬ b5 = w.heap.size by omega); have z1 := hSw.cell x1 (show ¬ b5 = w.heap.size by omega); have z2 := hSw.cell x2 (show ¬ b5 = w.heap.size by omega); have z3 := hSw.cell d0 (show ¬ b = w.heap.size by omega); have z4 := hSw.cell d1 (show ¬ b = w.heap.size by omega); have z5 := hSw.cell e1 (show ¬ g = w.heap.size by omega); go_simp; try with_reducible rfl)); simp only [Act.put, List.setIfInBounds_toArray, List.set_cons_zero, List.set_cons_succ])
        | (refine wpAnyHIn_take 4 (v := ?_) rfl (by kernel_rfl) (by kernel_rfl) (by kernel_rfl) (by decide +kernel) (fun _ _ _ h => h) (fun _ _ _ => trivial) (by rfl) (fun w' hSw => ?_) hS ?_; rotate_left 1; (focus (have z0 := hSw.cell x0 (show ¬ b5 = w.heap.size by omega); have z1 := hSw.cell x1 (show ¬ b5 = w.heap.size by omega); have z2 := hSw.cell x2 (show ¬ b5 = w.heap.size by omega); have z3 := hSw.cell d0 (show ¬ b = w.heap.size by omega); have z4 := hSw.cell d1 (show ¬ b = w.heap.size by omega); have z5 := hSw.cell e1 (show ¬ g = w.heap.size by omega); go_simp; try with_reducible rfl)); simp only [Act.put, List.setIfInBounds_toArray, List.set_cons_zero, List.set_cons_succ])
        | (refine wpAnyHIn_take 5 (v := ?_) rfl (by kernel_rfl) (by kernel_rfl) (by kernel_rfl) (by decide +kernel) (fun _ _ _ h => h) (fun _ _ _ => trivial) (by rfl) (fun w' hSw => ?_) hS ?_; rotate_left 1; (focus (have z0 := hSw.cell x0 (show ¬ b5 = w.heap.size by omega); have z1 := hSw.cell x1 (show ¬ b5 = w.heap.size by omega); have z2 := hSw.cell x2 (show ¬ b5 = w.heap.size by omega); have z3 := hSw.cell d0 (show ¬ b = w.heap.size by omega); have z4 := hSw.cell d1 (show ¬ b = w.heap.size by omega); have z5 := hSw.cell e1 (show ¬ g = w.heap.size by omega); go_simp; try with_reducible rfl)); simp only [Act.put, List.setIfInBounds_toArray, List.set_cons_zero, List.set_cons_succ])
        | (refine wpAnyHIn_take 6 (v := ?_) rfl (by kernel_rfl) (by kernel_rfl) (by kernel_rfl) (by decide +kernel) (fun _ _ _ h => h) (fun _ _ _ => trivial) (by rfl) (fun w' hSw => ?_) hS ?_; rotate_left 1; (focus (have z0 := hSw.cell x0 (show ¬ b5 = w.heap.size by omega); have z1 := hSw.cell x1 (show ¬ b5 = w.heap.size by omega); have z2 := hSw.cell x2 (show ¬ b5 = w.heap.size by omega); have z3 := hSw.cell d0 (show ¬ b = w.heap.size by omega); have z4 := hSw.cell d1 (show ¬ b = w.heap.size by omega); have z5 := hSw.cell e1 (show ¬ g = w.heap.size by omega); go_simp; try with_reducible rfl)); simp only [Act.put, List.setIfInBounds_toArray, List.set_cons_zero, List.set_cons_succ])
        | (refine wpAnyHIn_take 7 (v := ?_) rfl (by kernel_rfl) (by kernel_rfl) (by kernel_rfl) (by decide +kernel) (fun _ _ _ h => h) (fun _ _ _ => trivial) (by rfl) (fun w' hSw => ?_) hS ?_; rotate_left 1; (focus (have z0 := hSw.cell x0 (show ¬ b5 = w.heap.size by omega); have z1 := hSw.cell x1 (show ¬ b5 = w.heap.size by omega); have z2 := hSw.cell x2 (show ¬ b5 = w.heap.size by omega); have z3 := hSw.cell d0 (show ¬ b = w.heap.size by omega); have z4 := hSw.cell d1 (show ¬ b = w.heap.size by omega); have z5 := hSw.cell e1 (show ¬ g = w.heap.size by omega); go_simp; try with_reducible rfl)); simp only [Act.put, List.setIfInBounds_toArray, List.set_cons_zero, List.set_cons_succ])
        | (refine wpAnyHIn_take 8 (v := ?_) rfl (by kernel_rfl) (by kernel_rfl) (by kernel_rfl) (by decide +kernel) (fun _ _ _ h => h) (fun _ _ _ => trivial) (by rfl) (fun w' hSw => ?_) hS ?_; rotate_left 1; (focus (have z0 := hSw.cell x0 (show ¬ b5 = w.heap.size by omega); have z1 := hSw.cell x1 (show ¬ b5 = w.heap.size by omega); have z2 := hSw.cell x2 (show ¬ b5 = w.heap.size by omega); have z3 := hSw.cell d0 (show ¬ b = w.heap.size by omega); have z4 := hSw.cell d1 (show ¬ b = w.heap.size by omega); have z5 := hSw.cell e1 (show ¬ g = w.heap.size by omega); go_simp; try with_reducible rfl)); simp only [Act.put, List.setIfInBounds_toArray, List.set_cons_zero, List.set_cons_succ])
        | (refine wpAnyHIn_take 9 (v := ?_) rfl (by kernel_rfl) (by kernel_rfl) (by kernel_rfl) (by decide +kernel) (fun _ _ _ h => h) (fun _ _ _ => trivial) (by rfl) (fun w' hSw => ?_) hS ?_; rotate_left 1; (focus (have z0 := hSw.cell x0 (show ¬ b5 = w.heap.size by omega); have z1 := hSw.cell x1 (show ¬ b5 = w.heap.size by omega); have z2 := hSw.cell x2 (show ¬ b5 = w.heap.size by omega); have z3 := hSw.cell d0 (show ¬ b = w.heap.size by omega); have z4 := hSw.cell d1 (show ¬ b = w.heap.size by omega); have z5 := hSw.cell e1 (show ¬ g = w.heap.size by omega); go_simp; try with_reducible rfl)); simp only [Act.put, List.setIfInBounds_toArray, List.set_cons_zero, List.set_cons_succ])
        | (refine wpAnyHIn_take 10 (v := ?_) rfl (by kernel_rfl) (by kernel_rfl) (by kernel_rfl) (by decide +kernel) (fun _ _ _ h => h) (fun _ _ _ => trivial) (by rfl) (fun w' hSw => ?_) hS ?_; rotate_left 1; (focus (have z0 := hSw.cell x0 (show ¬ b5 = w.heap.size by omega); have z1 := hSw.cell x1 (show ¬ b5 = w.heap.size by omega); have z2 := hSw.cell x2 (show ¬ b5 = w.heap.size by omega); have z3 := hSw.cell d0 (show ¬ b = w.heap.size by omega); have z4 := hSw.cell d1 (show ¬ b = w.heap.size by omega); have z5 := hSw.cell e1 (show ¬ g = w.heap.size by omega); go_simp; try with_reducible rfl)); simp only [Act.put, List.setIfInBounds_toArray, List.set_cons_zero, List.set_cons_succ])
        | (refine wpAnyHIn_take 11 (v := ?_) rfl (by kernel_rfl) (by kernel_rfl) (by kernel_rfl) (by decide +kernel) (fun _ _ _ h => h) (fun _ _ _ => trivial) (by rfl) (fun w' hSw => ?_) hS ?_; rotate_left 1; (focus (have z0 := hSw.cell x0 (show ¬ b5 = w.heap.size by omega); have z1 := hSw.cell x1 (show ¬ b5 = w.heap.size by omega); have z2 := hSw.cell x2 (show ¬ b5 = w.heap.size by omega); have z3 := hSw.cell d0 (show ¬ b = w.heap.size by omega); have z4 := hSw.cell d1 (show ¬ b = w.heap.size by omega); have z5 := hSw.cell e1 (show ¬ g = w.heap.size by omega); go_simp; try with_reducible rfl)); simp only [Act.put, List.setIfInBounds_toArray, List.set_cons_zero, List.set_cons_succ])
        | (refine wpAnyHIn_take 12 (v := ?_) rfl (by kernel_rfl) (by kernel_rfl) (by kernel_rfl) (by decide +kernel) (fun _ _ _ h => h) (fun _ _ _ => trivial) (by rfl) (fun w' hSw => ?_) hS ?_; rotate_left 1; (focus (have z0 := hSw.cell x0 (show ¬ b5 = w.heap.size by omega); have z1 := hSw.cell x1 (show ¬ b5 = w.heap.size by omega); have z2 := hSw.cell x2 (show ¬ b5 = w.heap.size by omega); have z3 := hSw.cell d0 (show ¬ b = w.heap.size by omega); have z4 := hSw.cell d1 (show ¬ b = w.heap.size by omega); have z5 := hSw.cell e1 (show ¬ g = w.heap.size by omega); go_simp; try with_reducible rfl)); simp only [Act.put, List.setIfInBounds_toArray, List.set_cons_zero, List.set_cons_succ]))
      iterate 3 (first
        | (refine wpAnyHIn_take 15 (v := ?_) rfl (by kernel_rfl) (by kernel_rfl) (by kernel_rfl) (by decide +kernel) (fun _ _ _ h => h) (fun _ _ _ => trivial) (by rfl) (fun w' hSw => ?_) hS ?_; rotate_left 1; (focus (have z0 := hSw.cell x0 (show ¬ b5 = w.heap.size by omega); have z1 := hSw.cell x1 (show ¬ b5 = w.heap.size by omega); have z2 := hSw.cell x2 (show ¬ b5 = w.heap.size by omega); have z3 := hSw.cell d0 (show ¬ b = w.heap.size by omega); have z4 := hSw.cell d1 (show ¬ b = w.heap.size by omega); have z5 := hSw.cell e1 (show ¬ g = w.heap.size by omega); go_simp; try with_reducible rfl)); simp only [Act.put, List.setIfInBounds_toArray, List.set_cons_zero, List.set_cons_succ])
        | (refine wpAnyHIn_take 16 (v := ?_) rfl (by kernel_rfl) (by kernel_rfl) (by kernel_rfl) (by decide +kernel) (fun _ _ _ h => h) (fun _ _ _ => trivial) (by rfl) (fun w' hSw => ?_) hS ?_; rotate_left 1; (focus (have z0 := hSw.cell x0 (show ¬ b5 = w.heap.size by omega); have z1 := hSw.cell x1 (show ¬ b5 = w.heap.size by omega); have z2 := hSw.cell x2 (show ¬ b5 = w.heap.size by omega); have z3 := hSw.cell d0 (show ¬ b = w.heap.size by omega); have z4 := hSw.cell d1 (show ¬ b = w.heap.size by omega); have z5 := hSw.cell e1 (show ¬ g = w.heap.size by omega); go_simp; try with_reducible rfl)); simp only [Act.put, List.setIfInBounds_toArray, List.set_cons_zero, List.set_cons_succ])
        | (refine wpAnyHIn_take 17 (v := ?_) rfl (by kernel_rfl) (by kernel_rfl) (by kernel_rfl) (by decide +kernel) (fun _ _ _ h => h) (fun _ _ _ => trivial) (by rfl) (fun w' hSw => ?_) hS ?_; rotate_left 1; (focus (have z0 := hSw.cell x0 (show ¬ b5 = w.heap.size by omega); have z1 := hSw.cell x1 (show ¬ b5 = w.heap.size by omega); have z2 := hSw.cell x2 (show ¬ b5 = w.heap.size by omega); have z3 := hSw.cell d0 (show ¬ b = w.heap.size by omega); have z4 := hSw.cell d1 (show ¬ b = w.heap.size by omega); have z5 := hSw.cell e1 (show ¬ g = w.heap.size by omega); go_simp; try with_reducible rfl)); simp only [Act.put, List.setIfInBounds_toArray, List.set_cons_zero, List.set_cons_succ]))
      refine wpAnyHIn_ready [13] (by kernel_rfl) (by simp) ?_
      refine AllHIn.cons rfl (by rfl) (fun K hK => ?_) AllHIn.nil
      go_simp
      refine ⟨trivial, ?_⟩
      refine (callsIn_wide.2 (CR.out _)).mono ?_
      rintro e w3 ⟨rfl, g3⟩
      have hS := hS.trans (Wx.of_gr g3)
      have hG := hG.trans g3
      refine hK.out _ _ hS ?_
      clear hK K
      iterate 1 (first
        | (refine wpAnyHIn_take 14 (v := ?_) rfl (by kernel_rfl) (by kernel_rfl) (by kernel_rfl) (by decide +kernel) (fun _ _ _ h => h) (fun _ _ _ => trivial) (by rfl) (fun w' hSw => ?_) hS ?_; rotate_left 1; (focus (skip; go_simp; try with_reducible rfl)); simp only [Act.put, List.setIfInBounds_toArray, List.set_cons_zero, List.set_cons_succ]))
      refine wpAnyHIn_ready [18] (by kernel_rfl) (by simp) ?_
      refine AllHIn.cons rfl (by rfl) (fun K hK => ?_) AllHIn.nil
      go_simp
      refine ⟨trivial, ?_⟩
      refine (callsIn_wide.2 (CM.out _)).mono ?_
      rintro e w3 ⟨rfl, g3⟩
      have hS := hS.trans (Wx.of_gr g3)
      have hG := hG.trans g3
      refine hK.out _ _ hS ?_
      clear hK K
      obtain ⟨k0, k1, k2, k3, k4, k5⟩ := B1.out.gr hG
      obtain ⟨z0, z1, z2, _⟩ := Box3.put (show Box3 w3 w.heap.size 0 0 0 from ⟨k0, k1, k2, k3, k4, k5⟩) rA rB rE
      have GF := (((GG.out.trans hG).setAt (Nat.le_refl _) (j := 0) (.int .i64 rA)).setAt (Nat.le_refl _) (j := 1) (.int .i64 rB)).setAt (Nat.le_refl _) (j := 2) (.int .i64 rE)
      refine wpAnyHIn_ready [19] (by kernel_rfl) (by simp) ?_
      refine AllHIn.cons rfl (by rfl) (fun K hK => ?_) AllHIn.nil
      go_simp
      refine hK.out _ _ (((hS.set rfl 0 _).set rfl 1 _).set rfl 2 _) ?_
      clear hK K
      refine wpAnyHIn_done (by kernel_rfl) ?_ _
      go_wp2_with fail
      exact bodyPost_ret (v := .agg #[.int .i64 rA, .int .i64 rB, .int .i64 rE]) (by simp [results, Try.results77, go_sem, z0, z1, z2]) rfl ⟨rfl, GF⟩
end Go.Proofs.Ytbhndfnfohoidaa
