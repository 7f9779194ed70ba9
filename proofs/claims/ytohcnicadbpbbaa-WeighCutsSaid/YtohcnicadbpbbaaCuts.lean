/- Proved: WeighCuts returns true at all odds and every list of ints, and its arguments read afterwards as before. Conditions: none. -/
import Derived.Test.YtohcnicadbpbbaaWD
import Derived.Test.YtohcnicadbpbbaaWo
import Derived.ProofKit
import Derived.OpenShut
import Derived.ShutString
import Derived.ChangeOld
import Derived.Below
namespace Go.Proofs.Ytohcnicadbpbbaa.weighCuts
open Go.ChangeShapes Go.WideShapes Go.ChangeAt Go.RowKit Go.Firn
open Go.ChangeMaps (open_string shut_string)

theorem own : ownKnob Try.prog.godebug = none := by kernel_rfl
theorem laidOut : laidOutB Try.prog = true := by kernel_rfl

set_option maxHeartbeats 8000000 in
set_option maxRecDepth 100000 in
theorem short (a b : Option Addr) (n c m d : Nat) (f g : Nat → Int) (a3 : Option Addr) (q c3 : Nat) (h : Nat → Int) (w : World) (hn : n ≤ 60) (hm : m ≤ 60) (hq : q ≤ 60) (hl : lgO n m = false) (hr : RdI w a n f) (hs : RdI w b m g) (ht : RdI w a3 q h) :
    Calls Try.prog 3 #[.agg #[.slice a n c, .slice b m d], .slice a3 q c3] w (RetB true w) := by
  obtain ⟨X0, hX0⟩ : ∃ X0, w.alloc (.cells #[.slice a n c, .slice b m d] 24) = X0 := ⟨_, rfl⟩
  have GX := Lib.hid (show Gr w X0 by rw [← hX0]; exact (Gr.refl w).alloc _)
  have BX0 := Lib.hid (show BoxO X0 w.heap.size (.slice a n c) (.slice b m d) by rw [← hX0]; exact BoxO.new rfl)
  obtain ⟨p0, p1⟩ := BX0.out
  have HL := Lib.hid (fun w1 => Long_any a b n c m d w1)
  rw [hl] at HL
  have d2 : ¬ (60 : Int) < q := by omega
  have H1 := Lib.hid (fun w1 (k : Gr w w1) => Noise_any a b a3 n c m d q c3 f g h w1 (by omega) (by omega) (by omega) (hr.gr k) (hs.gr k) (ht.gr k))
  have H2 := Lib.hid (fun w1 (k : Gr w w1) => refNoise_any a b a3 n c m d q c3 f g h w1 (by omega) (by omega) (by omega) (hr.gr k) (hs.gr k) (ht.gr k))
  have H3 := Lib.hid (fun w1 (k : Gr w w1) => Signal_any a b a3 n c m d q c3 f g h w1 (by omega) (by omega) (by omega) (hr.gr k) (hs.gr k) (ht.gr k))
  have H4 := Lib.hid (fun w1 (k : Gr w w1) => refSignal_any a b a3 n c m d q c3 f g h w1 (by omega) (by omega) (by omega) (hr.gr k) (hs.gr k) (ht.gr k))
  have H5 := Lib.hid (fun w1 (k : Gr w w1) => Valid_any a b n c m d f g w1 (by omega) (by omega) (hr.gr k) (hs.gr k))
  have H6 := Lib.hid (fun w1 (k : Gr w w1) => refValid_any a b n c m d f g w1 (by omega) (by omega) (hr.gr k) (hs.gr k))
  clear hr hs ht hl hq hn hm
  generalize okN (askE n m f g q h) (rN (kp f h q) (sm f n)) = A at *
  generalize okN (askE n m f g q h) (rD (kp f h q) (sm f n)) = B at *
  generalize okN (askE n m f g q h) (rN (kp g h q) (sm g m)) = C at *
  generalize okN (askE n m f g q h) (rD (kp g h q) (sm g m)) = D at *
  generalize askE n m f g q h = E at *
  generalize vO n m f g = V at *
  go_enter Try.func3, Try.ntmps3
  go_wp2_with (first
    | (go_at_call 8; refine (HL.out _).mono ?_; rintro e W0 ⟨rfl, g1⟩; have G0 := Lib.hid (GX.out.trans g1); have BX := Lib.hid (BX0.out.gr g1); obtain ⟨q0, q1⟩ := BX.out; clear g1)
    | (go_at_call 10; refine (H1.out _ G0.out).mono ?_; rintro e v1 ⟨rfl, g1⟩; obtain ⟨W1, hW1⟩ : ∃ W1, v1.alloc (.cells #[.int .i64 A, .int .i64 B] 28) = W1 := ⟨_, rfl⟩; have l1 := Lib.hid (show Gr W0 W1 by rw [← hW1]; exact g1.alloc _); have G1 := Lib.hid (G0.out.trans l1.out); have B1 := Lib.hid (show Box2 W1 v1.heap.size A B by rw [← hW1]; exact Box2.new rfl); obtain ⟨q0, q1⟩ := BX.out.gr l1.out; clear g1)
    | (go_at_call 11; refine (H2.out _ G1.out).mono ?_; rintro e v2 ⟨rfl, g1⟩; obtain ⟨W2, hW2⟩ : ∃ W2, v2.alloc (.cells #[.int .i64 A, .int .i64 B] 28) = W2 := ⟨_, rfl⟩; have l2 := Lib.hid (show Gr W1 W2 by rw [← hW2]; exact g1.alloc _); have G2 := Lib.hid (G1.out.trans l2.out); have B2 := Lib.hid (show Box2 W2 v2.heap.size A B by rw [← hW2]; exact Box2.new rfl); obtain ⟨q0, q1⟩ := BX.out.gr (l1.out.trans l2.out); clear g1)
    | (go_at_call 12; refine (H3.out _ G2.out).mono ?_; rintro e v3 ⟨rfl, g1⟩; obtain ⟨W3, hW3⟩ : ∃ W3, v3.alloc (.cells #[.int .i64 C, .int .i64 D] 28) = W3 := ⟨_, rfl⟩; have l3 := Lib.hid (show Gr W2 W3 by rw [← hW3]; exact g1.alloc _); have G3 := Lib.hid (G2.out.trans l3.out); have B3 := Lib.hid (show Box2 W3 v3.heap.size C D by rw [← hW3]; exact Box2.new rfl); obtain ⟨q0, q1⟩ := BX.out.gr ((l1.out.trans l2.out).trans l3.out); clear g1)
    | (go_at_call 13; refine (H4.out _ G3.out).mono ?_; rintro e v4 ⟨rfl, g1⟩; obtain ⟨W4, hW4⟩ : ∃ W4, v4.alloc (.cells #[.int .i64 C, .int .i64 D] 28) = W4 := ⟨_, rfl⟩; have l4 := Lib.hid (show Gr W3 W4 by rw [← hW4]; exact g1.alloc _); have G4 := Lib.hid (G3.out.trans l4.out); have B4 := Lib.hid (show Box2 W4 v4.heap.size C D by rw [← hW4]; exact Box2.new rfl); obtain ⟨q0, q1⟩ := BX.out.gr (((l1.out.trans l2.out).trans l3.out).trans l4.out); clear g1))
  obtain ⟨a0, a1, _⟩ := B1.out.gr ((l2.out.trans l3.out).trans l4.out)
  obtain ⟨b0, b1, _⟩ := B2.out.gr (l3.out.trans l4.out)
  obtain ⟨c0, c1, _⟩ := B3.out.gr l4.out
  obtain ⟨d0, d1, _⟩ := B4.out
  clear hX0 hW1 hW2 hW3 hW4 p0 p1 B1 B2 B3 B4 BX BX0 H1 H2 H3 H4 HL
  refine (wpIn_wide (n := 3)).1 ?_
  refine wpIn_region_held (fun w' => Gr W4 w') 29 (by kernel_rfl) rfl rfl ?_
  have hS : Gr W4 W4.drew := (Gr.refl W4).drew
  iterate 2 (first
    | (refine wpAnyHIn_take 0 (v := ?_) rfl (by kernel_rfl) (by kernel_rfl) (by kernel_rfl) (by decide +kernel) (fun _ _ _ h => h) (fun _ _ _ => trivial) (by rfl) (fun w' hSw => ?_) hS ?_; rotate_left 1; (focus (have z0 := hSw.cell q0; have z1 := hSw.cell q1; have z2 := hSw.cell a0; have z3 := hSw.cell a1; have z4 := hSw.cell b0; have z5 := hSw.cell b1; have z6 := hSw.cell c0; have z7 := hSw.cell c1; have z8 := hSw.cell d0; have z9 := hSw.cell d1; go_simp; try with_reducible rfl)); simp only [Act.put, List.setIfInBounds_toArray, List.set_cons_zero, List.set_cons_succ])
    | (refine wpAnyHIn_take 2 (v := ?_) rfl (by kernel_rfl) (by kernel_rfl) (by kernel_rfl) (by decide +kernel) (fun _ _ _ h => h) (fun _ _ _ => trivial) (by rfl) (fun w' hSw => ?_) hS ?_; rotate_left 1; (focus (have z0 := hSw.cell q0; have z1 := hSw.cell q1; have z2 := hSw.cell a0; have z3 := hSw.cell a1; have z4 := hSw.cell b0; have z5 := hSw.cell b1; have z6 := hSw.cell c0; have z7 := hSw.cell c1; have z8 := hSw.cell d0; have z9 := hSw.cell d1; go_simp; try with_reducible rfl)); simp only [Act.put, List.setIfInBounds_toArray, List.set_cons_zero, List.set_cons_succ]))
  refine wpAnyHIn_ready [1] (by kernel_rfl) (by simp) ?_
  refine AllHIn.cons rfl (by rfl) (fun K hK => ?_) AllHIn.nil
  go_simp
  refine ⟨trivial, ?_⟩
  refine (callsIn_wide.2 (H5.out _ (G4.out.trans hS))).mono ?_
  rintro e wX ⟨rfl, gX⟩
  have hS : Gr W4 wX := hS.trans gX
  refine hK.out _ _ hS ?_
  clear hK K gX
  refine wpAnyHIn_ready [3] (by kernel_rfl) (by simp) ?_
  refine AllHIn.cons rfl (by rfl) (fun K hK => ?_) AllHIn.nil
  go_simp
  refine ⟨trivial, ?_⟩
  refine (callsIn_wide.2 (H6.out _ (G4.out.trans hS))).mono ?_
  rintro e wX ⟨rfl, gX⟩
  have hS : Gr W4 wX := hS.trans gX
  refine hK.out _ _ hS ?_
  clear hK K gX
  iterate 22 (first
    | (refine wpAnyHIn_take 4 (v := ?_) rfl (by kernel_rfl) (by kernel_rfl) (by kernel_rfl) (by decide +kernel) (fun _ _ _ h => h) (fun _ _ _ => trivial) (by rfl) (fun w' hSw => ?_) hS ?_; rotate_left 1; (focus (have z0 := hSw.cell q0; have z1 := hSw.cell q1; have z2 := hSw.cell a0; have z3 := hSw.cell a1; have z4 := hSw.cell b0; have z5 := hSw.cell b1; have z6 := hSw.cell c0; have z7 := hSw.cell c1; have z8 := hSw.cell d0; have z9 := hSw.cell d1; go_simp; try with_reducible rfl)); simp only [Act.put, List.setIfInBounds_toArray, List.set_cons_zero, List.set_cons_succ])
    | (refine wpAnyHIn_take 5 (v := ?_) rfl (by kernel_rfl) (by kernel_rfl) (by kernel_rfl) (by decide +kernel) (fun _ _ _ h => h) (fun _ _ _ => trivial) (by rfl) (fun w' hSw => ?_) hS ?_; rotate_left 1; (focus (have z0 := hSw.cell q0; have z1 := hSw.cell q1; have z2 := hSw.cell a0; have z3 := hSw.cell a1; have z4 := hSw.cell b0; have z5 := hSw.cell b1; have z6 := hSw.cell c0; have z7 := hSw.cell c1; have z8 := hSw.cell d0; have z9 := hSw.cell d1; go_simp; try with_reducible rfl)); simp only [Act.put, List.setIfInBounds_toArray, List.set_cons_zero, List.set_cons_succ])
    | (refine wpAnyHIn_take 6 (v := ?_) rfl (by kernel_rfl) (by kernel_rfl) (by kernel_rfl) (by decide +kernel) (fun _ _ _ h => h) (fun _ _ _ => trivial) (by rfl) (fun w' hSw => ?_) hS ?_; rotate_left 1; (focus (have z0 := hSw.cell q0; have z1 := hSw.cell q1; have z2 := hSw.cell a0; have z3 := hSw.cell a1; have z4 := hSw.cell b0; have z5 := hSw.cell b1; have z6 := hSw.cell c0; have z7 := hSw.cell c1; have z8 := hSw.cell d0; have z9 := hSw.cell d1; go_simp; try with_reducible rfl)); simp only [Act.put, List.setIfInBounds_toArray, List.set_cons_zero, List.set_cons_succ])
    | (refine wpAnyHIn_take 7 (v := ?_) rfl (by kernel_rfl) (by kernel_rfl) (by kernel_rfl) (by decide +kernel) (fun _ _ _ h => h) (fun _ _ _ => trivial) (by rfl) (fun w' hSw => ?_) hS ?_; rotate_left 1; (focus (have z0 := hSw.cell q0; have z1 := hSw.cell q1; have z2 := hSw.cell a0; have z3 := hSw.cell a1; have z4 := hSw.cell b0; have z5 := hSw.cell b1; have z6 := hSw.cell c0; have z7 := hSw.cell c1; have z8 := hSw.cell d0; have z9 := hSw.cell d1; go_simp; try with_reducible rfl)); simp only [Act.put, List.setIfInBounds_toArray, List.set_cons_zero, List.set_cons_succ])
    | (refine wpAnyHIn_take 8 (v := ?_) rfl (by kernel_rfl) (by kernel_rfl) (by kernel_rfl) (by decide +kernel) (fun _ _ _ h => h) (fun _ _ _ => trivial) (by rfl) (fun w' hSw => ?_) hS ?_; rotate_left 1; (focus (have z0 := hSw.cell q0; have z1 := hSw.cell q1; have z2 := hSw.cell a0; have z3 := hSw.cell a1; have z4 := hSw.cell b0; have z5 := hSw.cell b1; have z6 := hSw.cell c0; have z7 := hSw.cell c1; have z8 := hSw.cell d0; have z9 := hSw.cell d1; go_simp; try with_reducible rfl)); simp only [Act.put, List.setIfInBounds_toArray, List.set_cons_zero, List.set_cons_succ])
    | (refine wpAnyHIn_take 9 (v := ?_) rfl (by kernel_rfl) (by kernel_rfl) (by kernel_rfl) (by decide +kernel) (fun _ _ _ h => h) (fun _ _ _ => trivial) (by rfl) (fun w' hSw => ?_) hS ?_; rotate_left 1; (focus (have z0 := hSw.cell q0; have z1 := hSw.cell q1; have z2 := hSw.cell a0; have z3 := hSw.cell a1; have z4 := hSw.cell b0; have z5 := hSw.cell b1; have z6 := hSw.cell c0; have z7 := hSw.cell c1; have z8 := hSw.cell d0; have z9 := hSw.cell d1; go_simp; try with_reducible rfl)); simp only [Act.put, List.setIfInBounds_toArray, List.set_cons_zero, List.set_cons_succ])
    | (refine wpAnyHIn_take 10 (v := ?_) rfl (by kernel_rfl) (by kernel_rfl) (by kernel_rfl) (by decide +kernel) (fun _ _ _ h => h) (fun _ _ _ => trivial) (by rfl) (fun w' hSw => ?_) hS ?_; rotate_left 1; (focus (have z0 := hSw.cell q0; have z1 := hSw.cell q1; have z2 := hSw.cell a0; have z3 := hSw.cell a1; have z4 := hSw.cell b0; have z5 := hSw.cell b1; have z6 := hSw.cell c0; have z7 := hSw.cell c1; have z8 := hSw.cell d0; have z9 := hSw.cell d1; go_simp; try with_reducible rfl)); simp only [Act.put, List.setIfInBounds_toArray, List.set_cons_zero, List.set_cons_succ])
    | (refine wpAnyHIn_take 11 (v := ?_) rfl (by kernel_rfl) (by kernel_rfl) (by kernel_rfl) (by decide +kernel) (fun _ _ _ h => h) (fun _ _ _ => trivial) (by rfl) (fun w' hSw => ?_) hS ?_; rotate_left 1; (focus (have z0 := hSw.cell q0; have z1 := hSw.cell q1; have z2 := hSw.cell a0; have z3 := hSw.cell a1; have z4 := hSw.cell b0; have z5 := hSw.cell b1; have z6 := hSw.cell c0; have z7 := hSw.cell c1; have z8 := hSw.cell d0; have z9 := hSw.cell d1; go_simp; try with_reducible rfl)); simp only [Act.put, List.setIfInBounds_toArray, List.set_cons_zero, List.set_cons_succ])
    | (refine wpAnyHIn_take 12 (v := ?_) rfl (by kernel_rfl) (by kernel_rfl) (by kernel_rfl) (by decide +kernel) (fun _ _ _ h => h) (fun _ _ _ => trivial) (by rfl) (fun w' hSw => ?_) hS ?_; rotate_left 1; (focus (have z0 := hSw.cell q0; have z1 := hSw.cell q1; have z2 := hSw.cell a0; have z3 := hSw.cell a1; have z4 := hSw.cell b0; have z5 := hSw.cell b1; have z6 := hSw.cell c0; have z7 := hSw.cell c1; have z8 := hSw.cell d0; have z9 := hSw.cell d1; go_simp; try with_reducible rfl)); simp only [Act.put, List.setIfInBounds_toArray, List.set_cons_zero, List.set_cons_succ])
    | (refine wpAnyHIn_take 13 (v := ?_) rfl (by kernel_rfl) (by kernel_rfl) (by kernel_rfl) (by decide +kernel) (fun _ _ _ h => h) (fun _ _ _ => trivial) (by rfl) (fun w' hSw => ?_) hS ?_; rotate_left 1; (focus (have z0 := hSw.cell q0; have z1 := hSw.cell q1; have z2 := hSw.cell a0; have z3 := hSw.cell a1; have z4 := hSw.cell b0; have z5 := hSw.cell b1; have z6 := hSw.cell c0; have z7 := hSw.cell c1; have z8 := hSw.cell d0; have z9 := hSw.cell d1; go_simp; try with_reducible rfl)); simp only [Act.put, List.setIfInBounds_toArray, List.set_cons_zero, List.set_cons_succ])
    | (refine wpAnyHIn_take 14 (v := ?_) rfl (by kernel_rfl) (by kernel_rfl) (by kernel_rfl) (by decide +kernel) (fun _ _ _ h => h) (fun _ _ _ => trivial) (by rfl) (fun w' hSw => ?_) hS ?_; rotate_left 1; (focus (have z0 := hSw.cell q0; have z1 := hSw.cell q1; have z2 := hSw.cell a0; have z3 := hSw.cell a1; have z4 := hSw.cell b0; have z5 := hSw.cell b1; have z6 := hSw.cell c0; have z7 := hSw.cell c1; have z8 := hSw.cell d0; have z9 := hSw.cell d1; go_simp; try with_reducible rfl)); simp only [Act.put, List.setIfInBounds_toArray, List.set_cons_zero, List.set_cons_succ])
    | (refine wpAnyHIn_take 15 (v := ?_) rfl (by kernel_rfl) (by kernel_rfl) (by kernel_rfl) (by decide +kernel) (fun _ _ _ h => h) (fun _ _ _ => trivial) (by rfl) (fun w' hSw => ?_) hS ?_; rotate_left 1; (focus (have z0 := hSw.cell q0; have z1 := hSw.cell q1; have z2 := hSw.cell a0; have z3 := hSw.cell a1; have z4 := hSw.cell b0; have z5 := hSw.cell b1; have z6 := hSw.cell c0; have z7 := hSw.cell c1; have z8 := hSw.cell d0; have z9 := hSw.cell d1; go_simp; try with_reducible rfl)); simp only [Act.put, List.setIfInBounds_toArray, List.set_cons_zero, List.set_cons_succ])
    | (refine wpAnyHIn_take 16 (v := ?_) rfl (by kernel_rfl) (by kernel_rfl) (by kernel_rfl) (by decide +kernel) (fun _ _ _ h => h) (fun _ _ _ => trivial) (by rfl) (fun w' hSw => ?_) hS ?_; rotate_left 1; (focus (have z0 := hSw.cell q0; have z1 := hSw.cell q1; have z2 := hSw.cell a0; have z3 := hSw.cell a1; have z4 := hSw.cell b0; have z5 := hSw.cell b1; have z6 := hSw.cell c0; have z7 := hSw.cell c1; have z8 := hSw.cell d0; have z9 := hSw.cell d1; go_simp; try with_reducible rfl)); simp only [Act.put, List.setIfInBounds_toArray, List.set_cons_zero, List.set_cons_succ])
    | (refine wpAnyHIn_take 17 (v := ?_) rfl (by kernel_rfl) (by kernel_rfl) (by kernel_rfl) (by decide +kernel) (fun _ _ _ h => h) (fun _ _ _ => trivial) (by rfl) (fun w' hSw => ?_) hS ?_; rotate_left 1; (focus (have z0 := hSw.cell q0; have z1 := hSw.cell q1; have z2 := hSw.cell a0; have z3 := hSw.cell a1; have z4 := hSw.cell b0; have z5 := hSw.cell b1; have z6 := hSw.cell c0; have z7 := hSw.cell c1; have z8 := hSw.cell d0; have z9 := hSw.cell d1; go_simp; try with_reducible rfl)); simp only [Act.put, List.setIfInBounds_toArray, List.set_cons_zero, List.set_cons_succ])
    | (refine wpAnyHIn_take 18 (v := ?_) rfl (by kernel_rfl) (by kernel_rfl) (by kernel_rfl) (by decide +kernel) (fun _ _ _ h => h) (fun _ _ _ => trivial) (by rfl) (fun w' hSw => ?_) hS ?_; rotate_left 1; (focus (have z0 := hSw.cell q0; have z1 := hSw.cell q1; have z2 := hSw.cell a0; have z3 := hSw.cell a1; have z4 := hSw.cell b0; have z5 := hSw.cell b1; have z6 := hSw.cell c0; have z7 := hSw.cell c1; have z8 := hSw.cell d0; have z9 := hSw.cell d1; go_simp; try with_reducible rfl)); simp only [Act.put, List.setIfInBounds_toArray, List.set_cons_zero, List.set_cons_succ])
    | (refine wpAnyHIn_take 19 (v := ?_) rfl (by kernel_rfl) (by kernel_rfl) (by kernel_rfl) (by decide +kernel) (fun _ _ _ h => h) (fun _ _ _ => trivial) (by rfl) (fun w' hSw => ?_) hS ?_; rotate_left 1; (focus (have z0 := hSw.cell q0; have z1 := hSw.cell q1; have z2 := hSw.cell a0; have z3 := hSw.cell a1; have z4 := hSw.cell b0; have z5 := hSw.cell b1; have z6 := hSw.cell c0; have z7 := hSw.cell c1; have z8 := hSw.cell d0; have z9 := hSw.cell d1; go_simp; try with_reducible rfl)); simp only [Act.put, List.setIfInBounds_toArray, List.set_cons_zero, List.set_cons_succ])
    | (refine wpAnyHIn_take 20 (v := ?_) rfl (by kernel_rfl) (by kernel_rfl) (by kernel_rfl) (by decide +kernel) (fun _ _ _ h => h) (fun _ _ _ => trivial) (by rfl) (fun w' hSw => ?_) hS ?_; rotate_left 1; (focus (have z0 := hSw.cell q0; have z1 := hSw.cell q1; have z2 := hSw.cell a0; have z3 := hSw.cell a1; have z4 := hSw.cell b0; have z5 := hSw.cell b1; have z6 := hSw.cell c0; have z7 := hSw.cell c1; have z8 := hSw.cell d0; have z9 := hSw.cell d1; go_simp; try with_reducible rfl)); simp only [Act.put, List.setIfInBounds_toArray, List.set_cons_zero, List.set_cons_succ])
    | (refine wpAnyHIn_take 21 (v := ?_) rfl (by kernel_rfl) (by kernel_rfl) (by kernel_rfl) (by decide +kernel) (fun _ _ _ h => h) (fun _ _ _ => trivial) (by rfl) (fun w' hSw => ?_) hS ?_; rotate_left 1; (focus (have z0 := hSw.cell q0; have z1 := hSw.cell q1; have z2 := hSw.cell a0; have z3 := hSw.cell a1; have z4 := hSw.cell b0; have z5 := hSw.cell b1; have z6 := hSw.cell c0; have z7 := hSw.cell c1; have z8 := hSw.cell d0; have z9 := hSw.cell d1; go_simp; try with_reducible rfl)); simp only [Act.put, List.setIfInBounds_toArray, List.set_cons_zero, List.set_cons_succ])
    | (refine wpAnyHIn_take 22 (v := ?_) rfl (by kernel_rfl) (by kernel_rfl) (by kernel_rfl) (by decide +kernel) (fun _ _ _ h => h) (fun _ _ _ => trivial) (by rfl) (fun w' hSw => ?_) hS ?_; rotate_left 1; (focus (have z0 := hSw.cell q0; have z1 := hSw.cell q1; have z2 := hSw.cell a0; have z3 := hSw.cell a1; have z4 := hSw.cell b0; have z5 := hSw.cell b1; have z6 := hSw.cell c0; have z7 := hSw.cell c1; have z8 := hSw.cell d0; have z9 := hSw.cell d1; go_simp; try with_reducible rfl)); simp only [Act.put, List.setIfInBounds_toArray, List.set_cons_zero, List.set_cons_succ])
    | (refine wpAnyHIn_take 23 (v := ?_) rfl (by kernel_rfl) (by kernel_rfl) (by kernel_rfl) (by decide +kernel) (fun _ _ _ h => h) (fun _ _ _ => trivial) (by rfl) (fun w' hSw => ?_) hS ?_; rotate_left 1; (focus (have z0 := hSw.cell q0; have z1 := hSw.cell q1; have z2 := hSw.cell a0; have z3 := hSw.cell a1; have z4 := hSw.cell b0; have z5 := hSw.cell b1; have z6 := hSw.cell c0; have z7 := hSw.cell c1; have z8 := hSw.cell d0; have z9 := hSw.cell d1; go_simp; try with_reducible rfl)); simp only [Act.put, List.setIfInBounds_toArray, List.set_cons_zero, List.set_cons_succ])
    | (refine wpAnyHIn_take 24 (v := ?_) rfl (by kernel_rfl) (by kernel_rfl) (by kernel_rfl) (by decide +kernel) (fun _ _ _ h => h) (fun _ _ _ => trivial) (by rfl) (fun w' hSw => ?_) hS ?_; rotate_left 1; (focus (have z0 := hSw.cell q0; have z1 := hSw.cell q1; have z2 := hSw.cell a0; have z3 := hSw.cell a1; have z4 := hSw.cell b0; have z5 := hSw.cell b1; have z6 := hSw.cell c0; have z7 := hSw.cell c1; have z8 := hSw.cell d0; have z9 := hSw.cell d1; go_simp; try with_reducible rfl)); simp only [Act.put, List.setIfInBounds_toArray, List.set_cons_zero, List.set_cons_succ])
    | (refine wpAnyHIn_take 25 (v := ?_) rfl (by kernel_rfl) (by kernel_rfl) (by kernel_rfl) (by decide +kernel) (fun _ _ _ h => h) (fun _ _ _ => trivial) (by rfl) (fun w' hSw => ?_) hS ?_; rotate_left 1; (focus (have z0 := hSw.cell q0; have z1 := hSw.cell q1; have z2 := hSw.cell a0; have z3 := hSw.cell a1; have z4 := hSw.cell b0; have z5 := hSw.cell b1; have z6 := hSw.cell c0; have z7 := hSw.cell c1; have z8 := hSw.cell d0; have z9 := hSw.cell d1; go_simp; try with_reducible rfl)); simp only [Act.put, List.setIfInBounds_toArray, List.set_cons_zero, List.set_cons_succ]))
  refine wpAnyHIn_ready [26] (by kernel_rfl) (by simp) ?_
  refine AllHIn.cons rfl (by rfl) (fun K hK => ?_) AllHIn.nil
  go_simp
  refine ⟨trivial, ?_⟩
  refine (callsIn_wide.2 (Awake_any _)).mono ?_
  rintro e wX ⟨rfl, gX⟩
  have hS : Gr W4 wX := hS.trans gX
  refine hK.out _ _ hS ?_
  clear hK K gX
  iterate 2 (first
    | (refine wpAnyHIn_take 27 (v := ?_) rfl (by kernel_rfl) (by kernel_rfl) (by kernel_rfl) (by decide +kernel) (fun _ _ _ h => h) (fun _ _ _ => trivial) (by rfl) (fun w' hSw => ?_) hS ?_; rotate_left 1; (focus (skip; go_simp; try with_reducible rfl)); simp only [Act.put, List.setIfInBounds_toArray, List.set_cons_zero, List.set_cons_succ])
    | (refine wpAnyHIn_take 28 (v := ?_) rfl (by kernel_rfl) (by kernel_rfl) (by kernel_rfl) (by decide +kernel) (fun _ _ _ h => h) (fun _ _ _ => trivial) (by rfl) (fun w' hSw => ?_) hS ?_; rotate_left 1; (focus (skip; go_simp; try with_reducible rfl)); simp only [Act.put, List.setIfInBounds_toArray, List.set_cons_zero, List.set_cons_succ]))
  refine wpAnyHIn_done (by kernel_rfl) ?_ _
  go_wp2_with fail
  go_ret
  exact ⟨rfl, G4.out.trans hS⟩

set_option maxHeartbeats 2000000 in
set_option maxRecDepth 100000 in
theorem walk (a b : Option Addr) (n c m d : Nat) (f g : Nat → Int) (a3 : Option Addr) (q c3 : Nat) (h : Nat → Int) (w : World) (_hn : n ≤ 9223372036854775807) (_hm : m ≤ 9223372036854775807) (_nc : n ≤ c) (_cl : c ≤ maxLen) (_md : m ≤ d) (_dl : d ≤ maxLen)
    (_fz : ∀ i, n ≤ i → f i = 0) (_gz : ∀ i, m ≤ i → g i = 0) (hr : RdI w a n f) (hs : RdI w b m g) (_hq : q ≤ 9223372036854775807) (ht : RdI w a3 q h) :
    Calls Try.prog 3 #[.agg #[.slice a n c, .slice b m d], .slice a3 q c3] w (RetB true w) := by
  obtain ⟨W0, hW0⟩ : ∃ W0, w.alloc (.cells #[.slice a n c, .slice b m d] 24) = W0 := ⟨_, rfl⟩
  have G0 := Lib.hid (show Gr w W0 by rw [← hW0]; exact (Gr.refl w).alloc _)
  have BX0 := Lib.hid (show BoxO W0 w.heap.size (.slice a n c) (.slice b m d) by rw [← hW0]; exact BoxO.new rfl)
  obtain ⟨p0, p1⟩ := BX0.out
  have HL := Lib.hid (fun w1 => Long_any a b n c m d w1)
  clear _hn _hm _nc _cl _md _dl _fz _gz
  cases hl : lgO n m with
  | true =>
    rw [hl] at HL
    clear hr hs ht hl
    go_enter Try.func3, Try.ntmps3
    go_wp2_with (first
      | (go_at_call 8; refine (HL.out _).mono ?_; rintro e w1 ⟨rfl, g1⟩; have G1 := Lib.hid (G0.out.trans g1); clear g1)
      | (go_at_call 9; refine (Awake_any _).mono ?_; rintro e w6 ⟨rfl, g6⟩))
    go_ret
    exact ⟨rfl, G1.out.trans g6⟩
  | false =>
    rw [hl] at HL
    by_cases hq6 : 60 < q
    · have d2 : (60 : Int) < q := by omega
      clear hr hs ht hl
      go_enter Try.func3, Try.ntmps3
      go_wp2_with (first
        | (go_at_call 8; refine (HL.out _).mono ?_; rintro e w1 ⟨rfl, g1⟩; have G1 := Lib.hid (G0.out.trans g1); clear g1)
        | (go_at_call 9; refine (Awake_any _).mono ?_; rintro e w6 ⟨rfl, g6⟩))
      go_ret
      exact ⟨rfl, G1.out.trans g6⟩
    · exact short a b n c m d f g a3 q c3 h w (lgO_false.1 hl).1 (lgO_false.1 hl).2 (by omega) hl hr hs ht

set_option maxRecDepth 100000 in
theorem lifted (os : Os) (started : os.Started) (H : Type) (enc : TypeId × Value → H) :
    ReturnsInHanded {} Try.checked os 3 .any (Rows.weighCutsSpec.pre6 enc Try.prog Try.f3 Rows.weighCutsRow.domain false) (Rows.weighCutsSpec.post enc Try.prog Try.f3 false true false false) := by
  refine returnsInHanded_of_change (C := Try.checked) own started (by kernel_rfl) Try.func3
    (ChangeSpec.witness6 (enc := enc) (C := Try.checked) false ⟨#[], #[.agg #[.slice none 0 0, .slice none 0 0], .slice none 0 0], []⟩ 8 (by kernel_rfl) (by kernel_rfl) (by kernel_rfl) (by kernel_rfl)) ?_
  intro W base args ds gs before hval0 hW hcnd _
  have hval : ∀ (j : Nat) t v, Try.f3.params[j]? = some t → args[j]? = some v → Value.okWide Try.prog W .any base t v := hval0
  have hW' := hW
  obtain ⟨p, q, hA0, hV, rfl, hfz, hnd⟩ := hW
  have hA : DataW.TrodAll enc Try.prog W 0 (fun _ => true) true Try.f3.params.toList args.toList ds p := hA0
  rw [Try.params3] at hA hval
  obtain ⟨v0, vs0, d0, ds0, p0, q0, hargs, rfl, rfl, h0, r0⟩ := trodAll_cons hA
  obtain ⟨v1, vs1, d1, ds1, p1, q1, rfl, rfl, rfl, h1, r1⟩ := trodAll_cons r0
  obtain ⟨rfl, rfl, rfl⟩ := trodAll_nil r1
  obtain rfl : args = #[v0, v1] := by cases args; simp_all
  obtain ⟨rfl, rfl⟩ := trodVars_none hV
  have k0 := h0
  have lt0 : ∀ x ∈ p0, x.block < W.heap.size := by obtain ⟨m, hm⟩ := k0; exact DataW.trod_lt m _ _ _ hm
  obtain ⟨a0, n0, c0, z0, b0, m0, e0, y0, rfl, wa0, wb0⟩ := open_two Try.underlying24 (by kernel_rfl) (by kernel_rfl) rfl rfl Try.underlying22 Try.underlying3 (by kernel_rfl) (hval 0 24 v0 rfl rfl) h0
  obtain ⟨hn0, nc0, cl0, f0, fz0, fr0⟩ := wa0.clip
  obtain ⟨hm0, md0, dl0, g0, gz0, gr0⟩ := wb0.clip
  obtain ⟨a1, len1, cap1, rfl⟩ := okWide_slice Try.underlying22 (hval 1 22 v1 rfl rfl)
  have k1 := h1
  have lt1 : ∀ x ∈ p1, x.block < W.heap.size := by obtain ⟨m, hm⟩ := k1; exact DataW.trod_lt m _ _ _ hm
  obtain ⟨z1, w1⟩ : ∃ zs, IsRow W a1 len1 cap1 zs := by
    obtain ⟨fuel, hf⟩ := h1
    rcases open_ints Try.underlying22 Try.underlying3 (by kernel_rfl) hf with ⟨hcs, _⟩ | ⟨x, l, c, zs, hcs, _, hl, hm, hz, _, hcell, hwz⟩
    · simp [Value.cells] at hcs
      obtain ⟨rfl, rfl, rfl⟩ := hcs
      exact ⟨[], .inl ⟨rfl, rfl, rfl, rfl⟩⟩
    · simp [Value.cells] at hcs
      obtain ⟨rfl, rfl, rfl⟩ := hcs
      exact ⟨zs, .inr ⟨_, rfl, hl, hm, by simpa using hz, hcell, hwz⟩⟩
  clear hA0 hval0
  refine (walk a0 b0 n0 c0 m0 e0 f0 g0 a1 len1 cap1 _ W hn0 hm0 nc0 cl0 md0 dl0 fz0 gz0 fr0 gr0 w1.rd.1 w1.rd.2).mono fun e W' ⟨he, bel⟩ => ?_
  subst he
  exact ⟨_, rfl, _, _, _, [], _, [], hW', trodAll_mk1 (shut_bool Try.underlying4 _), (trodAll_cons_mk (Below.trod laidOut (by kernel_rfl) (of_decide_eq_true (by kernel_rfl)) k0 bel lt0) (trodAll_cons_mk (Below.trod laidOut (by kernel_rfl) (of_decide_eq_true (by kernel_rfl)) k1 bel lt1) trodAll_mk0)), rfl, bel.frame _, fun h => by cases h⟩

theorem over : Rows.weighCutsRow.holds Try.pinned (OpenSpec.ofChange Rows.weighCutsSpec) :=
  OpenClaim.holds_of_wide 3 Try.f3 rfl rfl rfl rfl rfl rfl rfl ⟨rfl, rfl, rfl, rfl, rfl⟩ rfl rfl rfl rfl rfl (by kernel_rfl) Try.func3 (by kernel_rfl)
    (of_decide_eq_true (by kernel_rfl)) (by unfold Func.isWrapper; first | (rw [if_pos (by decide +kernel)]; kernel_rfl) | (rw [if_neg (by decide +kernel)]; exact ⟨rfl, rfl⟩))
    (fun os started H enc _ => lifted os started H enc)

/-- The statement. -/
theorem proved : Rows.WeighCutsSaid := over
end Go.Proofs.Ytohcnicadbpbbaa.weighCuts
