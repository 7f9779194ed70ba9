/- Contracts of chapter 7: which outcome comes first. -/
import Derived.Test.YtohcnicadbpbbaaDoorW9
import Derived.Test.YtohcnicadbpbbaaDoorRhe
namespace Go.Proofs.YtohcnicadbpbbaaDoor
open Go.RowKit Go.Firn

/-- Which outcome comes first: below 0, if the first does. -/
def cmpO (f g : Nat → Int) (i j : Nat) : Int := orI (cmpI (nth f g i) (nth f g j)) (cmpI (g j * f i) (g i * f j))

theorem cf73 (args : Array Value) (wz : World) : (callFunc 92 args).run Tryd.prog wz = .ok (.enter 92 args) wz := by kernel_rfl

theorem cell_new2a (w : World) (p q : Int) (e : TypeId) : (w.alloc (.cells #[.int .i64 p, .int .i64 q] e)).cell? ⟨w.heap.size, 0, none⟩ = some (.int .i64 p) := (cell_new2 w p q e).1
theorem cell_new2b (w : World) (p q : Int) (e : TypeId) : (w.alloc (.cells #[.int .i64 p, .int .i64 q] e)).cell? ⟨w.heap.size, 0 + 1, none⟩ = some (.int .i64 q) := (cell_new2 w p q e).2

set_option maxRecDepth 100000 in
set_option maxHeartbeats 8000000 in
theorem compare_any (a a2 : Option Addr) (n c d : Nat) (f g : Nat → Int) (i j : Nat) (u v : Value) (w : World) (hi : i < n) (hj : j < n) (hr : RdI w a n f) (hs : RdI w a2 n g)
    (hf : ∀ k, k < n → 0 ≤ f k ∧ f k ≤ 1000) (hg : ∀ k, k < n → 0 ≤ g k ∧ g k ≤ 1000) :
    Calls Tryd.prog 82 #[.agg #[.slice a n c, .slice a2 n d, u, v], .int .i64 i, .int .i64 j] w fun e w' => e = .returned (.int .i64 (cmpO f g i j)) ∧ Gr w w' := by
  obtain ⟨W0, hW0⟩ : ∃ W0, w.alloc (.cells #[.slice a n c, .slice a2 n d, u, v] 58) = W0 := ⟨_, rfl⟩
  have G0 := Lib.hid (show Gr w W0 by rw [← hW0]; exact (Gr.refl w).alloc _)
  have B := Lib.hid (show Box4 W0 w.heap.size (.slice a n c) (.slice a2 n d) u v by rw [← hW0]; exact Box4.new rfl)
  have hmf : ∀ (fn : Fn) (first cap : Array Value) (w : World), (Instr.makeFunc fn first cap).run Tryd.prog w = .ok (.func fn first cap) w := fun _ _ _ _ => rfl
  have HR := Lib.hid (hr.gr G0.out)
  have HS := Lib.hid (hs.gr G0.out)
  have C1 := Lib.hid (fun w' (k : Gr W0 w') => (compare1_any a a2 n c d w.heap.size f g i u v w' hi (HR.out.gr k) (HS.out.gr k) (hf i hi) (hg i hi) (B.out.gr k)).mono (R' := fun e w'' => e = .returned (.int .i64 (nth f g i)) ∧ Gr w' w'') (fun e w'' ⟨h1, m, h2⟩ => ⟨h1, by rw [h2]; exact (Gr.refl w').drewN m⟩))
  have C2 := Lib.hid (fun w' (k : Gr W0 w') => (compare1_any a a2 n c d w.heap.size f g j u v w' hj (HR.out.gr k) (HS.out.gr k) (hf j hj) (hg j hj) (B.out.gr k)).mono (R' := fun e w'' => e = .returned (.int .i64 (nth f g j)) ∧ Gr w' w'') (fun e w'' ⟨h1, m, h2⟩ => ⟨h1, by rw [h2]; exact (Gr.refl w').drewN m⟩))
  obtain ⟨b1, o1, e1, hc1⟩ := HR.out.at hi
  obtain ⟨b2, o2, e2, hc2⟩ := HS.out.at hi
  have f1 := hc1 i hi
  have f2 := hc1 j hj
  have g1 := hc2 i hi
  have g2 := hc2 j hj
  have i1 : (i : Int) < n := by omega
  have j1 : (j : Int) < n := by omega
  obtain ⟨p0, p1, p2, p3, _⟩ := B.out
  have E := Lib.hid (show cmpO f g i j = orI (cmpI (nth f g i) (nth f g j)) (cmpI (g j * f i) (g i * f j)) from rfl)
  have m1 := mul_bd (a := g j) (b := f i) (A := 1000) (B := 1000) (by have := hg j hj; omega) (hg j hj).2 (by have := hf i hi; omega) (hf i hi).2
  have m2 := mul_bd (a := g i) (b := f j) (A := 1000) (B := 1000) (by have := hg i hi; omega) (hg i hi).2 (by have := hf j hj; omega) (hf j hj).2
  have q1 : IntKind.i64.wrap (g j * f i) = g j * f i := IntWalk.i64_in _ (by omega)
  have q2 : IntKind.i64.wrap (g i * f j) = g i * f j := IntWalk.i64_in _ (by omega)
  rw [E.out]
  clear hc1 hc2 hr hs hf hg m1 m2 E HR HS
  subst e1
  subst e2
  generalize nth f g i = s at *
  generalize nth f g j = t at *
  generalize f i = fi at *
  generalize f j = fj at *
  generalize g i = gi at *
  generalize g j = gj at *
  go_enter Tryd.func82, Tryd.ntmps82
  go_wp2_with fail
  clear p2 p3 hW0 B
  refine (wpIn_wide (n := 3)).1 ?_
  refine wpIn_region_held (fun w' => Gr W0 w') 37 (by kernel_rfl) rfl rfl ?_
  have hS : Gr W0 W0.drew := (Gr.refl W0).drew
  iterate 30 (first
    | (refine wpAnyHIn_take 0 (v := ?_) rfl (by kernel_rfl) (by kernel_rfl) (by kernel_rfl) (by decide +kernel) (fun _ _ _ h => h) (fun _ _ _ => trivial) (by rfl) (fun w' hSw => ?_) hS ?_; rotate_left 1; (focus (have z0 := hSw.cell p0; have z1 := hSw.cell p1; have z2 := hSw.cell f1; have z3 := hSw.cell f2; have z4 := hSw.cell g1; have z5 := hSw.cell g2; go_simp; try with_reducible rfl)); simp only [Act.put, List.setIfInBounds_toArray, List.set_cons_zero, List.set_cons_succ])
    | (refine wpAnyHIn_take 1 (v := ?_) rfl (by kernel_rfl) (by kernel_rfl) (by kernel_rfl) (by decide +kernel) (fun _ _ _ h => h) (fun _ _ _ => trivial) (by rfl) (fun w' hSw => ?_) hS ?_; rotate_left 1; (focus (have z0 := hSw.cell p0; have z1 := hSw.cell p1; have z2 := hSw.cell f1; have z3 := hSw.cell f2; have z4 := hSw.cell g1; have z5 := hSw.cell g2; go_simp; try with_reducible rfl)); simp only [Act.put, List.setIfInBounds_toArray, List.set_cons_zero, List.set_cons_succ])
    | (refine wpAnyHIn_take 3 (v := ?_) rfl (by kernel_rfl) (by kernel_rfl) (by kernel_rfl) (by decide +kernel) (fun _ _ _ h => h) (fun _ _ _ => trivial) (by rfl) (fun w' hSw => ?_) hS ?_; rotate_left 1; (focus (have z0 := hSw.cell p0; have z1 := hSw.cell p1; have z2 := hSw.cell f1; have z3 := hSw.cell f2; have z4 := hSw.cell g1; have z5 := hSw.cell g2; go_simp; try with_reducible rfl)); simp only [Act.put, List.setIfInBounds_toArray, List.set_cons_zero, List.set_cons_succ])
    | (refine wpAnyHIn_take 4 (v := ?_) rfl (by kernel_rfl) (by kernel_rfl) (by kernel_rfl) (by decide +kernel) (fun _ _ _ h => h) (fun _ _ _ => trivial) (by rfl) (fun w' hSw => ?_) hS ?_; rotate_left 1; (focus (have z0 := hSw.cell p0; have z1 := hSw.cell p1; have z2 := hSw.cell f1; have z3 := hSw.cell f2; have z4 := hSw.cell g1; have z5 := hSw.cell g2; go_simp; try with_reducible rfl)); simp only [Act.put, List.setIfInBounds_toArray, List.set_cons_zero, List.set_cons_succ])
    | (refine wpAnyHIn_take 7 (v := ?_) rfl (by kernel_rfl) (by kernel_rfl) (by kernel_rfl) (by decide +kernel) (fun _ _ _ h => h) (fun _ _ _ => trivial) (by rfl) (fun w' hSw => ?_) hS ?_; rotate_left 1; (focus (have z0 := hSw.cell p0; have z1 := hSw.cell p1; have z2 := hSw.cell f1; have z3 := hSw.cell f2; have z4 := hSw.cell g1; have z5 := hSw.cell g2; go_simp; try with_reducible rfl)); simp only [Act.put, List.setIfInBounds_toArray, List.set_cons_zero, List.set_cons_succ])
    | (refine wpAnyHIn_take 8 (v := ?_) rfl (by kernel_rfl) (by kernel_rfl) (by kernel_rfl) (by decide +kernel) (fun _ _ _ h => h) (fun _ _ _ => trivial) (by rfl) (fun w' hSw => ?_) hS ?_; rotate_left 1; (focus (have z0 := hSw.cell p0; have z1 := hSw.cell p1; have z2 := hSw.cell f1; have z3 := hSw.cell f2; have z4 := hSw.cell g1; have z5 := hSw.cell g2; go_simp; try with_reducible rfl)); simp only [Act.put, List.setIfInBounds_toArray, List.set_cons_zero, List.set_cons_succ])
    | (refine wpAnyHIn_take 9 (v := ?_) rfl (by kernel_rfl) (by kernel_rfl) (by kernel_rfl) (by decide +kernel) (fun _ _ _ h => h) (fun _ _ _ => trivial) (by rfl) (fun w' hSw => ?_) hS ?_; rotate_left 1; (focus (have z0 := hSw.cell p0; have z1 := hSw.cell p1; have z2 := hSw.cell f1; have z3 := hSw.cell f2; have z4 := hSw.cell g1; have z5 := hSw.cell g2; go_simp; try with_reducible rfl)); simp only [Act.put, List.setIfInBounds_toArray, List.set_cons_zero, List.set_cons_succ])
    | (refine wpAnyHIn_take 10 (v := ?_) rfl (by kernel_rfl) (by kernel_rfl) (by kernel_rfl) (by decide +kernel) (fun _ _ _ h => h) (fun _ _ _ => trivial) (by rfl) (fun w' hSw => ?_) hS ?_; rotate_left 1; (focus (have z0 := hSw.cell p0; have z1 := hSw.cell p1; have z2 := hSw.cell f1; have z3 := hSw.cell f2; have z4 := hSw.cell g1; have z5 := hSw.cell g2; go_simp; try with_reducible rfl)); simp only [Act.put, List.setIfInBounds_toArray, List.set_cons_zero, List.set_cons_succ])
    | (refine wpAnyHIn_take 11 (v := ?_) rfl (by kernel_rfl) (by kernel_rfl) (by kernel_rfl) (by decide +kernel) (fun _ _ _ h => h) (fun _ _ _ => trivial) (by rfl) (fun w' hSw => ?_) hS ?_; rotate_left 1; (focus (have z0 := hSw.cell p0; have z1 := hSw.cell p1; have z2 := hSw.cell f1; have z3 := hSw.cell f2; have z4 := hSw.cell g1; have z5 := hSw.cell g2; go_simp; try with_reducible rfl)); simp only [Act.put, List.setIfInBounds_toArray, List.set_cons_zero, List.set_cons_succ])
    | (refine wpAnyHIn_take 12 (v := ?_) rfl (by kernel_rfl) (by kernel_rfl) (by kernel_rfl) (by decide +kernel) (fun _ _ _ h => h) (fun _ _ _ => trivial) (by rfl) (fun w' hSw => ?_) hS ?_; rotate_left 1; (focus (have z0 := hSw.cell p0; have z1 := hSw.cell p1; have z2 := hSw.cell f1; have z3 := hSw.cell f2; have z4 := hSw.cell g1; have z5 := hSw.cell g2; go_simp; try with_reducible rfl)); simp only [Act.put, List.setIfInBounds_toArray, List.set_cons_zero, List.set_cons_succ])
    | (refine wpAnyHIn_take 13 (v := ?_) rfl (by kernel_rfl) (by kernel_rfl) (by kernel_rfl) (by decide +kernel) (fun _ _ _ h => h) (fun _ _ _ => trivial) (by rfl) (fun w' hSw => ?_) hS ?_; rotate_left 1; (focus (have z0 := hSw.cell p0; have z1 := hSw.cell p1; have z2 := hSw.cell f1; have z3 := hSw.cell f2; have z4 := hSw.cell g1; have z5 := hSw.cell g2; go_simp; try with_reducible rfl)); simp only [Act.put, List.setIfInBounds_toArray, List.set_cons_zero, List.set_cons_succ])
    | (refine wpAnyHIn_take 14 (v := ?_) rfl (by kernel_rfl) (by kernel_rfl) (by kernel_rfl) (by decide +kernel) (fun _ _ _ h => h) (fun _ _ _ => trivial) (by rfl) (fun w' hSw => ?_) hS ?_; rotate_left 1; (focus (have z0 := hSw.cell p0; have z1 := hSw.cell p1; have z2 := hSw.cell f1; have z3 := hSw.cell f2; have z4 := hSw.cell g1; have z5 := hSw.cell g2; go_simp; try with_reducible rfl)); simp only [Act.put, List.setIfInBounds_toArray, List.set_cons_zero, List.set_cons_succ])
    | (refine wpAnyHIn_take 15 (v := ?_) rfl (by kernel_rfl) (by kernel_rfl) (by kernel_rfl) (by decide +kernel) (fun _ _ _ h => h) (fun _ _ _ => trivial) (by rfl) (fun w' hSw => ?_) hS ?_; rotate_left 1; (focus (have z0 := hSw.cell p0; have z1 := hSw.cell p1; have z2 := hSw.cell f1; have z3 := hSw.cell f2; have z4 := hSw.cell g1; have z5 := hSw.cell g2; go_simp; try with_reducible rfl)); simp only [Act.put, List.setIfInBounds_toArray, List.set_cons_zero, List.set_cons_succ])
    | (refine wpAnyHIn_take 16 (v := ?_) rfl (by kernel_rfl) (by kernel_rfl) (by kernel_rfl) (by decide +kernel) (fun _ _ _ h => h) (fun _ _ _ => trivial) (by rfl) (fun w' hSw => ?_) hS ?_; rotate_left 1; (focus (have z0 := hSw.cell p0; have z1 := hSw.cell p1; have z2 := hSw.cell f1; have z3 := hSw.cell f2; have z4 := hSw.cell g1; have z5 := hSw.cell g2; go_simp; try with_reducible rfl)); simp only [Act.put, List.setIfInBounds_toArray, List.set_cons_zero, List.set_cons_succ])
    | (refine wpAnyHIn_take 17 (v := ?_) rfl (by kernel_rfl) (by kernel_rfl) (by kernel_rfl) (by decide +kernel) (fun _ _ _ h => h) (fun _ _ _ => trivial) (by rfl) (fun w' hSw => ?_) hS ?_; rotate_left 1; (focus (have z0 := hSw.cell p0; have z1 := hSw.cell p1; have z2 := hSw.cell f1; have z3 := hSw.cell f2; have z4 := hSw.cell g1; have z5 := hSw.cell g2; go_simp; try with_reducible rfl)); simp only [Act.put, List.setIfInBounds_toArray, List.set_cons_zero, List.set_cons_succ])
    | (refine wpAnyHIn_take 18 (v := ?_) rfl (by kernel_rfl) (by kernel_rfl) (by kernel_rfl) (by decide +kernel) (fun _ _ _ h => h) (fun _ _ _ => trivial) (by rfl) (fun w' hSw => ?_) hS ?_; rotate_left 1; (focus (have z0 := hSw.cell p0; have z1 := hSw.cell p1; have z2 := hSw.cell f1; have z3 := hSw.cell f2; have z4 := hSw.cell g1; have z5 := hSw.cell g2; go_simp; try with_reducible rfl)); simp only [Act.put, List.setIfInBounds_toArray, List.set_cons_zero, List.set_cons_succ])
    | (refine wpAnyHIn_take 19 (v := ?_) rfl (by kernel_rfl) (by kernel_rfl) (by kernel_rfl) (by decide +kernel) (fun _ _ _ h => h) (fun _ _ _ => trivial) (by rfl) (fun w' hSw => ?_) hS ?_; rotate_left 1; (focus (have z0 := hSw.cell p0; have z1 := hSw.cell p1; have z2 := hSw.cell f1; have z3 := hSw.cell f2; have z4 := hSw.cell g1; have z5 := hSw.cell g2; go_simp; try with_reducible rfl)); simp only [Act.put, List.setIfInBounds_toArray, List.set_cons_zero, List.set_cons_succ])
    | (refine wpAnyHIn_take 20 (v := ?_) rfl (by kernel_rfl) (by kernel_rfl) (by kernel_rfl) (by decide +kernel) (fun _ _ _ h => h) (fun _ _ _ => trivial) (by rfl) (fun w' hSw => ?_) hS ?_; rotate_left 1; (focus (have z0 := hSw.cell p0; have z1 := hSw.cell p1; have z2 := hSw.cell f1; have z3 := hSw.cell f2; have z4 := hSw.cell g1; have z5 := hSw.cell g2; go_simp; try with_reducible rfl)); simp only [Act.put, List.setIfInBounds_toArray, List.set_cons_zero, List.set_cons_succ])
    | (refine wpAnyHIn_take 21 (v := ?_) rfl (by kernel_rfl) (by kernel_rfl) (by kernel_rfl) (by decide +kernel) (fun _ _ _ h => h) (fun _ _ _ => trivial) (by rfl) (fun w' hSw => ?_) hS ?_; rotate_left 1; (focus (have z0 := hSw.cell p0; have z1 := hSw.cell p1; have z2 := hSw.cell f1; have z3 := hSw.cell f2; have z4 := hSw.cell g1; have z5 := hSw.cell g2; go_simp; try with_reducible rfl)); simp only [Act.put, List.setIfInBounds_toArray, List.set_cons_zero, List.set_cons_succ])
    | (refine wpAnyHIn_take 22 (v := ?_) rfl (by kernel_rfl) (by kernel_rfl) (by kernel_rfl) (by decide +kernel) (fun _ _ _ h => h) (fun _ _ _ => trivial) (by rfl) (fun w' hSw => ?_) hS ?_; rotate_left 1; (focus (have z0 := hSw.cell p0; have z1 := hSw.cell p1; have z2 := hSw.cell f1; have z3 := hSw.cell f2; have z4 := hSw.cell g1; have z5 := hSw.cell g2; go_simp; try with_reducible rfl)); simp only [Act.put, List.setIfInBounds_toArray, List.set_cons_zero, List.set_cons_succ])
    | (refine wpAnyHIn_take 23 (v := ?_) rfl (by kernel_rfl) (by kernel_rfl) (by kernel_rfl) (by decide +kernel) (fun _ _ _ h => h) (fun _ _ _ => trivial) (by rfl) (fun w' hSw => ?_) hS ?_; rotate_left 1; (focus (have z0 := hSw.cell p0; have z1 := hSw.cell p1; have z2 := hSw.cell f1; have z3 := hSw.cell f2; have z4 := hSw.cell g1; have z5 := hSw.cell g2; go_simp; try with_reducible rfl)); simp only [Act.put, List.setIfInBounds_toArray, List.set_cons_zero, List.set_cons_succ])
    | (refine wpAnyHIn_take 24 (v := ?_) rfl (by kernel_rfl) (by kernel_rfl) (by kernel_rfl) (by decide +kernel) (fun _ _ _ h => h) (fun _ _ _ => trivial) (by rfl) (fun w' hSw => ?_) hS ?_; rotate_left 1; (focus (have z0 := hSw.cell p0; have z1 := hSw.cell p1; have z2 := hSw.cell f1; have z3 := hSw.cell f2; have z4 := hSw.cell g1; have z5 := hSw.cell g2; go_simp; try with_reducible rfl)); simp only [Act.put, List.setIfInBounds_toArray, List.set_cons_zero, List.set_cons_succ])
    | (refine wpAnyHIn_take 25 (v := ?_) rfl (by kernel_rfl) (by kernel_rfl) (by kernel_rfl) (by decide +kernel) (fun _ _ _ h => h) (fun _ _ _ => trivial) (by rfl) (fun w' hSw => ?_) hS ?_; rotate_left 1; (focus (have z0 := hSw.cell p0; have z1 := hSw.cell p1; have z2 := hSw.cell f1; have z3 := hSw.cell f2; have z4 := hSw.cell g1; have z5 := hSw.cell g2; go_simp; try with_reducible rfl)); simp only [Act.put, List.setIfInBounds_toArray, List.set_cons_zero, List.set_cons_succ])
    | (refine wpAnyHIn_take 26 (v := ?_) rfl (by kernel_rfl) (by kernel_rfl) (by kernel_rfl) (by decide +kernel) (fun _ _ _ h => h) (fun _ _ _ => trivial) (by rfl) (fun w' hSw => ?_) hS ?_; rotate_left 1; (focus (have z0 := hSw.cell p0; have z1 := hSw.cell p1; have z2 := hSw.cell f1; have z3 := hSw.cell f2; have z4 := hSw.cell g1; have z5 := hSw.cell g2; go_simp; try with_reducible rfl)); simp only [Act.put, List.setIfInBounds_toArray, List.set_cons_zero, List.set_cons_succ])
    | (refine wpAnyHIn_take 27 (v := ?_) rfl (by kernel_rfl) (by kernel_rfl) (by kernel_rfl) (by decide +kernel) (fun _ _ _ h => h) (fun _ _ _ => trivial) (by rfl) (fun w' hSw => ?_) hS ?_; rotate_left 1; (focus (have z0 := hSw.cell p0; have z1 := hSw.cell p1; have z2 := hSw.cell f1; have z3 := hSw.cell f2; have z4 := hSw.cell g1; have z5 := hSw.cell g2; go_simp; try with_reducible rfl)); simp only [Act.put, List.setIfInBounds_toArray, List.set_cons_zero, List.set_cons_succ])
    | (refine wpAnyHIn_take 28 (v := ?_) rfl (by kernel_rfl) (by kernel_rfl) (by kernel_rfl) (by decide +kernel) (fun _ _ _ h => h) (fun _ _ _ => trivial) (by rfl) (fun w' hSw => ?_) hS ?_; rotate_left 1; (focus (have z0 := hSw.cell p0; have z1 := hSw.cell p1; have z2 := hSw.cell f1; have z3 := hSw.cell f2; have z4 := hSw.cell g1; have z5 := hSw.cell g2; go_simp; try with_reducible rfl)); simp only [Act.put, List.setIfInBounds_toArray, List.set_cons_zero, List.set_cons_succ])
    | (refine wpAnyHIn_take 29 (v := ?_) rfl (by kernel_rfl) (by kernel_rfl) (by kernel_rfl) (by decide +kernel) (fun _ _ _ h => h) (fun _ _ _ => trivial) (by rfl) (fun w' hSw => ?_) hS ?_; rotate_left 1; (focus (have z0 := hSw.cell p0; have z1 := hSw.cell p1; have z2 := hSw.cell f1; have z3 := hSw.cell f2; have z4 := hSw.cell g1; have z5 := hSw.cell g2; go_simp; try with_reducible rfl)); simp only [Act.put, List.setIfInBounds_toArray, List.set_cons_zero, List.set_cons_succ])
    | (refine wpAnyHIn_take 30 (v := ?_) rfl (by kernel_rfl) (by kernel_rfl) (by kernel_rfl) (by decide +kernel) (fun _ _ _ h => h) (fun _ _ _ => trivial) (by rfl) (fun w' hSw => ?_) hS ?_; rotate_left 1; (focus (have z0 := hSw.cell p0; have z1 := hSw.cell p1; have z2 := hSw.cell f1; have z3 := hSw.cell f2; have z4 := hSw.cell g1; have z5 := hSw.cell g2; go_simp; try with_reducible rfl)); simp only [Act.put, List.setIfInBounds_toArray, List.set_cons_zero, List.set_cons_succ])
    | (refine wpAnyHIn_take 31 (v := ?_) rfl (by kernel_rfl) (by kernel_rfl) (by kernel_rfl) (by decide +kernel) (fun _ _ _ h => h) (fun _ _ _ => trivial) (by rfl) (fun w' hSw => ?_) hS ?_; rotate_left 1; (focus (have z0 := hSw.cell p0; have z1 := hSw.cell p1; have z2 := hSw.cell f1; have z3 := hSw.cell f2; have z4 := hSw.cell g1; have z5 := hSw.cell g2; go_simp; try with_reducible rfl)); simp only [Act.put, List.setIfInBounds_toArray, List.set_cons_zero, List.set_cons_succ])
    | (refine wpAnyHIn_take 32 (v := ?_) rfl (by kernel_rfl) (by kernel_rfl) (by kernel_rfl) (by decide +kernel) (fun _ _ _ h => h) (fun _ _ _ => trivial) (by rfl) (fun w' hSw => ?_) hS ?_; rotate_left 1; (focus (have z0 := hSw.cell p0; have z1 := hSw.cell p1; have z2 := hSw.cell f1; have z3 := hSw.cell f2; have z4 := hSw.cell g1; have z5 := hSw.cell g2; go_simp; try with_reducible rfl)); simp only [Act.put, List.setIfInBounds_toArray, List.set_cons_zero, List.set_cons_succ]))
  refine wpAnyHIn_ready [2] (by kernel_rfl) (by simp) ?_
  refine AllHIn.cons rfl (by rfl) (fun K hK => ?_) AllHIn.nil
  go_simp
  refine ⟨trivial, ?_⟩
  refine (callsIn_wide.2 (C1.out _ hS)).mono ?_
  rintro e wX ⟨rfl, gX⟩
  have hS : Gr W0 wX := hS.trans gX
  refine hK.out _ _ hS ?_
  clear hK K gX
  refine wpAnyHIn_ready [5] (by kernel_rfl) (by simp) ?_
  refine AllHIn.cons rfl (by rfl) (fun K hK => ?_) AllHIn.nil
  go_simp
  refine ⟨trivial, ?_⟩
  refine (callsIn_wide.2 (C2.out _ hS)).mono ?_
  rintro e wX ⟨rfl, gX⟩
  have hS : Gr W0 wX := hS.trans gX
  refine hK.out _ _ hS ?_
  clear hK K gX
  refine wpAnyHIn_ready [6] (by kernel_rfl) (by simp) ?_
  refine AllHIn.cons rfl (by rfl) (fun K hK => ?_) AllHIn.nil
  go_simp
  refine ⟨trivial, ?_⟩
  refine (callsIn_wide.2 (Compare_any _ _ _)).mono ?_
  rintro e wX ⟨rfl, rfl⟩
  refine hK.out _ _ hS ?_
  clear hK K
  refine wpAnyHIn_ready [33] (by kernel_rfl) (by simp) ?_
  refine AllHIn.cons rfl (by rfl) (fun K hK => ?_) AllHIn.nil
  go_simp
  refine ⟨trivial, ?_⟩
  refine (callsIn_wide.2 (Compare_any _ _ _)).mono ?_
  rintro e wX ⟨rfl, rfl⟩
  refine hK.out _ _ hS ?_
  clear hK K
  refine wpAnyHIn_ready [34] (by kernel_rfl) (by simp) ?_
  refine AllHIn.cons rfl (by rfl) (fun K hK => ?_) AllHIn.nil
  go_simp
  refine hK.out _ _ (hS.alloc _) ?_
  have hS : Gr W0 (wX.alloc (.cells #[.int .i64 (cmpI s t), .int .i64 (cmpI (gj * fi) (gi * fj))] 3)) := hS.alloc _
  clear hK K
  refine wpAnyHIn_ready [35] (by kernel_rfl) (by simp) ?_
  refine AllHIn.cons rfl (by rfl) (fun K hK => ?_) AllHIn.nil
  go_simp
  refine ⟨trivial, ?_⟩
  refine (callsIn_wide.2 (Or_any _ 0 _ _ _ (cell_new2a _ _ _ _) (cell_new2b _ _ _ _))).mono ?_
  rintro e wZ ⟨rfl, rfl⟩
  refine hK.out _ _ hS ?_
  clear hK K
  iterate 1 (first
    | (refine wpAnyHIn_take 36 (v := ?_) rfl (by kernel_rfl) (by kernel_rfl) (by kernel_rfl) (by decide +kernel) (fun _ _ _ h => h) (fun _ _ _ => trivial) (by rfl) (fun w' hSw => ?_) hS ?_; rotate_left 1; (focus (skip; go_simp; try with_reducible rfl)); simp only [Act.put, List.setIfInBounds_toArray, List.set_cons_zero, List.set_cons_succ]))
  refine wpAnyHIn_done (by kernel_rfl) ?_ _
  clear p0 p1 f1 f2 g1 g2
  go_wp2_with fail
  go_ret
  exact ⟨rfl, G0.out.trans hS⟩

end Go.Proofs.YtohcnicadbpbbaaDoor
