/- Contracts of chapter 5: the axis, as it is exported. -/
import Derived.Test.YtbhndfnfohoidaaW31
namespace Go.Proofs.Ytbhndfnfohoidaa
open Go.RowKit Go.Firn

set_option maxHeartbeats 1000000 in
theorem Axis_any (a : Option Addr) (n c : Nat) (X Y : Nat → Int) (w : World) (hn : n ≤ 1000) (hr : RdM w a n X Y) :
    Calls Try.prog 40 #[.slice a n c] w (RetLE (okE (leE n X Y) (axL n X Y (witS X Y (wits n X)).l).A) (okE (leE n X Y) (axL n X Y (witS X Y (wits n X)).l).B) (okE (leE n X Y) (axL n X Y (witS X Y (wits n X)).l).D) (leE n X Y) w) := by
  have G0 := Lib.hid ((Gr.refl w).alloc (.cells #[.int .i64 0, .int .i64 0, .int .i64 0] 37))
  have B0 := Lib.hid (show Box3 (w.alloc (.cells #[.int .i64 0, .int .i64 0, .int .i64 0] 37)) w.heap.size 0 0 0 from Box3.new rfl)
  have HA := Lib.hid (Valid_any a n c X Y (w.alloc (.cells #[.int .i64 0, .int .i64 0, .int .i64 0] 37)) hn (hr.gr G0.out))
  cases hv : vP n X Y with
  | false =>
    have E := Lib.hid (show leE n X Y = 50 by unfold leE; rw [hv]; rfl)
    have F := Lib.hid (show ∀ N, okE (leE n X Y) N = 0 from fun N => by rw [E.out]; rfl)
    rw [hv] at HA
    rw [F.out, F.out, F.out, E.out]
    clear hr hv hn E F
    go_enter Try.func40, Try.ntmps40
    go_wp2_with (go_at_call 28; refine (HA.out).mono ?_; rintro e w1 ⟨rfl, g1⟩; have G1 := Lib.hid (G0.out.trans g1); obtain ⟨k0, k1, k2, k3, k4, k5⟩ := B0.out.gr g1; clear g1)
    refine bodyPost_ret (v := .tuple #[.agg #[.int .i64 0, .int .i64 0, .int .i64 0], .int .i64 50]) (by simp [results, Try.results40, go_sem, k0, k1, k2]) rfl ⟨rfl, ?_⟩
    repeat (first | exact G1.out | refine Gr.alloc ?_ _ | refine Gr.drewN ?_ _ | refine Gr.drew ?_ | refine Gr.setCell ?_ (by simp) _)
  | true =>
    have V := vP_iff.1 hv
    have E := Lib.hid (show leE n X Y = 0 by unfold leE; rw [hv]; rfl)
    have F := Lib.hid (show ∀ N, okE (leE n X Y) N = N from fun N => by rw [E.out]; rfl)
    have HT := Lib.hid (show ∀ w1, Gr (w.alloc (.cells #[.int .i64 0, .int .i64 0, .int .i64 0] 37)) w1 → Calls Try.prog 77 #[.slice a n c] w1 (RetL (axL n X Y (witS X Y (wits n X)).l).A (axL n X Y (witS X Y (wits n X)).l).B (axL n X Y (witS X Y (wits n X)).l).D w1) from fun w1 g => by
      obtain ⟨b, o, e, _⟩ := hr.at (show 0 < n by have := V.two; omega)
      subst e
      exact axis_any b o n c X Y V w1 ((hr.gr G0.out).gr g))
    rw [hv] at HA
    rw [F.out, F.out, F.out, E.out]
    clear hr hv hn V E F
    generalize (axL n X Y (witS X Y (wits n X)).l).A = A at *
    generalize (axL n X Y (witS X Y (wits n X)).l).B = B at *
    generalize (axL n X Y (witS X Y (wits n X)).l).D = D at *
    go_enter Try.func40, Try.ntmps40
    go_wp2_with (first
      | (go_at_call 28; refine (HA.out).mono ?_; rintro e w1 ⟨rfl, g1⟩; have G1 := Lib.hid g1; clear g1)
      | (go_at_call 77; refine (HT.out _ G1.out).mono ?_; rintro e w2 ⟨rfl, g2⟩; have G2 := Lib.hid (G1.out.trans g2); obtain ⟨k0, k1, k2, k3, k4, k5⟩ := B0.out.gr G2.out; clear g2))
    obtain ⟨z0, z1, z2, _⟩ := Box3.put (show Box3 w2 w.heap.size 0 0 0 from ⟨k0, k1, k2, k3, k4, k5⟩) A B D
    refine bodyPost_ret (v := .tuple #[.agg #[.int .i64 A, .int .i64 B, .int .i64 D], .int .i64 0]) (by simp [results, Try.results40, go_sem, z0, z1, z2]) rfl ⟨rfl, ?_⟩
    repeat (first | exact G0.out.trans G2.out | refine Gr.alloc ?_ _ | refine Gr.drewN ?_ _ | refine Gr.drew ?_ | refine Gr.setCell ?_ (by simp) _)

end Go.Proofs.Ytbhndfnfohoidaa
