/- Contracts of chapter 5: the line through two points, as it is exported; the line with the least cost. -/
import Derived.Test.YtbhndfnfohoidaaW23
namespace Go.Proofs.Ytbhndfnfohoidaa
open Go.RowKit Go.Firn

/-- A line and an error. -/
def RetLE (A B D err : Int) (w : World) (e : Ending) (w' : World) : Prop := e = .returned (.tuple #[.agg #[.int .i64 A, .int .i64 B, .int .i64 D], .int .i64 err]) ∧ Gr w w'
def thE (x1 y1 x2 y2 : Int) : Int := if inPB x1 y1 && inPB x2 y2 then (if x1 = x2 then 5 else 0) else 50
def okE (E N : Int) : Int := if E = 0 then N else 0

set_option maxHeartbeats 1000000 in
theorem Through_any (x1 y1 x2 y2 : Int) (w : World) :
    Calls Try.prog 45 #[.agg #[.int .i64 x1, .int .i64 y1], .agg #[.int .i64 x2, .int .i64 y2]] w (RetLE (okE (thE x1 y1 x2 y2) (thA x1 y1 x2 y2)) (okE (thE x1 y1 x2 y2) (thB x1 y1 x2 y2)) (okE (thE x1 y1 x2 y2) (thD x1 y1 x2 y2)) (thE x1 y1 x2 y2) w) := by
  obtain ⟨W0, hW0⟩ : ∃ W0, ((w.alloc (.cells #[.int .i64 x1, .int .i64 y1] 56)).alloc (.cells #[.int .i64 x2, .int .i64 y2] 56)).alloc (.cells #[.int .i64 0, .int .i64 0, .int .i64 0] 37) = W0 := ⟨_, rfl⟩
  have G0 := Lib.hid (show Gr w W0 by rw [← hW0]; exact (((Gr.refl w).alloc _).alloc _).alloc _)
  have B2 := Lib.hid (show Box2 W0 w.heap.size x1 y1 by rw [← hW0]; exact (Box2.new rfl).gr (((Gr.refl _).alloc _).alloc _))
  have B3 := Lib.hid (show Box2 W0 (w.heap.size + 1) x2 y2 by rw [← hW0]; exact (Box2.new (by simp)).gr ((Gr.refl _).alloc _))
  have B4 := Lib.hid (show Box3 W0 (w.heap.size + 1 + 1) 0 0 0 by rw [← hW0]; exact Box3.new (by simp))
  have C1 := Lib.hid (fun w' => isPoint_any x1 y1 w')
  have C2 := Lib.hid (fun w' => isPoint_any x2 y2 w')
  obtain ⟨l0, l1, _, _⟩ := B2.out
  cases p1 : inPB x1 y1 with
  | false =>
    have E := Lib.hid (show thE x1 y1 x2 y2 = 50 by unfold thE; rw [p1]; rfl)
    have F := Lib.hid (show ∀ N, okE (thE x1 y1 x2 y2) N = 0 from fun N => by rw [E.out]; rfl)
    rw [F.out, F.out, F.out, E.out]
    clear E F
    rw [p1] at C1
    clear p1 C2
    go_enter Try.func45, Try.ntmps45
    go_wp2_with (go_at_call 73; (with_reducible refine (C1.out _).mono ?_); rintro e w1 ⟨rfl, g1⟩; have G1 := Lib.hid g1; obtain ⟨m0, m1, _, _⟩ := B2.out.gr g1; obtain ⟨n0, n1, _, _⟩ := B3.out.gr g1; obtain ⟨k0, k1, k2, k3, k4, k5⟩ := B4.out.gr g1; clear g1)
    obtain ⟨z0, z1, z2, _⟩ := Box3.put (show Box3 w1 (w.heap.size + 1 + 1) 0 0 0 from ⟨k0, k1, k2, k3, k4, k5⟩) (0) (0) (0)
    refine bodyPost_ret (v := .tuple #[.agg #[.int .i64 (0), .int .i64 (0), .int .i64 (0)], .int .i64 50]) (by simp [results, Try.results45, go_sem, z0, z1, z2]) rfl ⟨rfl, ?_⟩
    repeat (first | exact G0.out.trans G1.out | refine Gr.setCell ?_ (by simp; omega) _ | refine Gr.setCell ?_ (by simp) _ | refine Gr.alloc ?_ _ | refine Gr.drewN ?_ _ | refine Gr.drew ?_)
  | true =>
  cases p2 : inPB x2 y2 with
  | false =>
    have E := Lib.hid (show thE x1 y1 x2 y2 = 50 by unfold thE; rw [p1, p2]; rfl)
    have F := Lib.hid (show ∀ N, okE (thE x1 y1 x2 y2) N = 0 from fun N => by rw [E.out]; rfl)
    rw [F.out, F.out, F.out, E.out]
    clear E F
    rw [p1] at C1
    rw [p2] at C2
    clear p1 p2
    go_enter Try.func45, Try.ntmps45
    go_wp2_with (first | (go_at_call 73; (with_reducible refine (C1.out _).mono ?_); rintro e w1 ⟨rfl, g1⟩; have G1 := Lib.hid g1; obtain ⟨m0, m1, _, _⟩ := B2.out.gr g1; obtain ⟨n0, n1, _, _⟩ := B3.out.gr g1; obtain ⟨k0, k1, k2, k3, k4, k5⟩ := B4.out.gr g1; clear g1) | (go_at_call 73; (with_reducible refine (C2.out _).mono ?_); rintro e w2 ⟨rfl, g2⟩; have G2 := Lib.hid (G1.out.trans g2); obtain ⟨m0, m1, _, _⟩ := B2.out.gr G2.out; obtain ⟨n0, n1, _, _⟩ := B3.out.gr G2.out; obtain ⟨k0, k1, k2, k3, k4, k5⟩ := B4.out.gr G2.out; clear g2))
    obtain ⟨z0, z1, z2, _⟩ := Box3.put (show Box3 w2 (w.heap.size + 1 + 1) 0 0 0 from ⟨k0, k1, k2, k3, k4, k5⟩) (0) (0) (0)
    refine bodyPost_ret (v := .tuple #[.agg #[.int .i64 (0), .int .i64 (0), .int .i64 (0)], .int .i64 50]) (by simp [results, Try.results45, go_sem, z0, z1, z2]) rfl ⟨rfl, ?_⟩
    repeat (first | exact G0.out.trans G2.out | refine Gr.setCell ?_ (by simp; omega) _ | refine Gr.setCell ?_ (by simp) _ | refine Gr.alloc ?_ _ | refine Gr.drewN ?_ _ | refine Gr.drew ?_)
  | true =>
  by_cases hx : x1 = x2
  · subst hx
    have E := Lib.hid (show thE x1 y1 x1 y2 = 5 by unfold thE; rw [p1, p2]; simp)
    have F := Lib.hid (show ∀ N, okE (thE x1 y1 x1 y2) N = 0 from fun N => by rw [E.out]; rfl)
    rw [F.out, F.out, F.out, E.out]
    clear E F
    rw [p1] at C1
    rw [p2] at C2
    clear p1 p2
    go_enter Try.func45, Try.ntmps45
    go_wp2_with (first | (go_at_call 73; (with_reducible refine (C1.out _).mono ?_); rintro e w1 ⟨rfl, g1⟩; have G1 := Lib.hid g1; obtain ⟨m0, m1, _, _⟩ := B2.out.gr g1; obtain ⟨n0, n1, _, _⟩ := B3.out.gr g1; obtain ⟨k0, k1, k2, k3, k4, k5⟩ := B4.out.gr g1; clear g1) | (go_at_call 73; (with_reducible refine (C2.out _).mono ?_); rintro e w2 ⟨rfl, g2⟩; have G2 := Lib.hid (G1.out.trans g2); obtain ⟨m0, m1, _, _⟩ := B2.out.gr G2.out; obtain ⟨n0, n1, _, _⟩ := B3.out.gr G2.out; obtain ⟨k0, k1, k2, k3, k4, k5⟩ := B4.out.gr G2.out; clear g2))
    obtain ⟨z0, z1, z2, _⟩ := Box3.put (show Box3 w2 (w.heap.size + 1 + 1) 0 0 0 from ⟨k0, k1, k2, k3, k4, k5⟩) (0) (0) (0)
    refine bodyPost_ret (v := .tuple #[.agg #[.int .i64 (0), .int .i64 (0), .int .i64 (0)], .int .i64 5]) (by simp [results, Try.results45, go_sem, z0, z1, z2]) rfl ⟨rfl, ?_⟩
    repeat (first | exact G0.out.trans G2.out | refine Gr.setCell ?_ (by simp; omega) _ | refine Gr.setCell ?_ (by simp) _ | refine Gr.alloc ?_ _ | refine Gr.drewN ?_ _ | refine Gr.drew ?_)
  · have E := Lib.hid (show thE x1 y1 x2 y2 = 0 by unfold thE; rw [p1, p2]; simp [hx])
    have F := Lib.hid (show ∀ N, okE (thE x1 y1 x2 y2) N = N from fun N => by rw [E.out]; rfl)
    rw [F.out, F.out, F.out, E.out]
    have C3 := Lib.hid (fun w' => through_any x1 y1 x2 y2 w' (inPB_iff.1 p1) (inPB_iff.1 p2) hx)
    rw [p1] at C1
    rw [p2] at C2
    have d1 : (x1 == x2) = false := by simpa using hx
    clear p1 p2 E F hx
    generalize thA x1 y1 x2 y2 = A at *
    generalize thB x1 y1 x2 y2 = B at *
    generalize thD x1 y1 x2 y2 = D at *
    go_enter Try.func45, Try.ntmps45
    go_wp2_with (first | (go_at_call 73; (with_reducible refine (C1.out _).mono ?_); rintro e w1 ⟨rfl, g1⟩; have G1 := Lib.hid g1; obtain ⟨m0, m1, _, _⟩ := B2.out.gr g1; obtain ⟨n0, n1, _, _⟩ := B3.out.gr g1; obtain ⟨k0, k1, k2, k3, k4, k5⟩ := B4.out.gr g1; clear g1) | (go_at_call 73; (with_reducible refine (C2.out _).mono ?_); rintro e w2 ⟨rfl, g2⟩; have G2 := Lib.hid (G1.out.trans g2); obtain ⟨m0, m1, _, _⟩ := B2.out.gr G2.out; obtain ⟨n0, n1, _, _⟩ := B3.out.gr G2.out; obtain ⟨k0, k1, k2, k3, k4, k5⟩ := B4.out.gr G2.out; clear g2) | (go_at_call 82; (with_reducible refine (C3.out _).mono ?_); rintro e w3 ⟨rfl, g3⟩; have G3 := Lib.hid (G2.out.trans g3); obtain ⟨k0, k1, k2, k3, k4, k5⟩ := B4.out.gr G3.out; clear g3))
    obtain ⟨z0, z1, z2, _⟩ := Box3.put (show Box3 w3 (w.heap.size + 1 + 1) 0 0 0 from ⟨k0, k1, k2, k3, k4, k5⟩) (A) (B) (D)
    refine bodyPost_ret (v := .tuple #[.agg #[.int .i64 (A), .int .i64 (B), .int .i64 (D)], .int .i64 0]) (by simp [results, Try.results45, go_sem, z0, z1, z2]) rfl ⟨rfl, ?_⟩
    repeat (first | exact G0.out.trans G3.out | refine Gr.setCell ?_ (by simp; omega) _ | refine Gr.setCell ?_ (by simp) _ | refine Gr.alloc ?_ _ | refine Gr.drewN ?_ _ | refine Gr.drew ?_)

set_option maxHeartbeats 1000000 in
theorem Line_any (a : Option Addr) (n c : Nat) (X Y : Nat → Int) (w : World) (hn : n ≤ 1000) (hr : RdM w a n X Y) :
    Calls Try.prog 39 #[.slice a n c] w (RetLE (okE (leE n X Y) (oA X Y (bst n X Y (prs X n)))) (okE (leE n X Y) (oB X Y (bst n X Y (prs X n)))) (okE (leE n X Y) (oD X Y (bst n X Y (prs X n)))) (leE n X Y) w) := by
  have G0 := Lib.hid ((Gr.refl w).alloc (.cells #[.int .i64 0, .int .i64 0, .int .i64 0] 37))
  have B0 := Lib.hid (show Box3 (w.alloc (.cells #[.int .i64 0, .int .i64 0, .int .i64 0] 37)) w.heap.size 0 0 0 from Box3.new rfl)
  have HA := Lib.hid (Valid_any a n c X Y (w.alloc (.cells #[.int .i64 0, .int .i64 0, .int .i64 0] 37)) hn (hr.gr G0.out))
  cases hv : vP n X Y with
  | false =>
    have E := Lib.hid (show leE n X Y = 50 by unfold leE; rw [hv]; rfl)
    have F := Lib.hid (show ∀ N, okE (leE n X Y) N = 0 from fun N => by rw [E.out]; rfl)
    rw [hv] at HA
    rw [F.out, F.out, F.out, E.out]
    clear hr hv hn E F
    go_enter Try.func39, Try.ntmps39
    go_wp2_with (go_at_call 28; refine (HA.out).mono ?_; rintro e w1 ⟨rfl, g1⟩; have G1 := Lib.hid (G0.out.trans g1); obtain ⟨k0, k1, k2, k3, k4, k5⟩ := B0.out.gr g1; clear g1)
    refine bodyPost_ret (v := .tuple #[.agg #[.int .i64 0, .int .i64 0, .int .i64 0], .int .i64 50]) (by simp [results, Try.results39, go_sem, k0, k1, k2]) rfl ⟨rfl, ?_⟩
    repeat (first | exact G1.out | refine Gr.alloc ?_ _ | refine Gr.drewN ?_ _ | refine Gr.drew ?_ | refine Gr.setCell ?_ (by simp) _)
  | true =>
    have V := vP_iff.1 hv
    have E := Lib.hid (show leE n X Y = 0 by unfold leE; rw [hv]; rfl)
    have F := Lib.hid (show ∀ N, okE (leE n X Y) N = N from fun N => by rw [E.out]; rfl)
    have HT := Lib.hid (show ∀ w1, Gr (w.alloc (.cells #[.int .i64 0, .int .i64 0, .int .i64 0] 37)) w1 → Calls Try.prog 60 #[.slice a n c] w1 (RetL (oA X Y (bst n X Y (prs X n))) (oB X Y (bst n X Y (prs X n))) (oD X Y (bst n X Y (prs X n))) w1) from fun w1 g => by
      obtain ⟨b, o, e, _⟩ := hr.at (show 0 < n by have := V.two; omega)
      subst e
      exact best_any b o n c X Y V w1 ((hr.gr G0.out).gr g))
    rw [hv] at HA
    rw [F.out, F.out, F.out, E.out]
    clear hr hv hn V E F
    generalize oA X Y (bst n X Y (prs X n)) = A at *
    generalize oB X Y (bst n X Y (prs X n)) = B at *
    generalize oD X Y (bst n X Y (prs X n)) = D at *
    go_enter Try.func39, Try.ntmps39
    go_wp2_with (first
      | (go_at_call 28; refine (HA.out).mono ?_; rintro e w1 ⟨rfl, g1⟩; have G1 := Lib.hid g1; clear g1)
      | (go_at_call 60; refine (HT.out _ G1.out).mono ?_; rintro e w2 ⟨rfl, g2⟩; have G2 := Lib.hid (G1.out.trans g2); obtain ⟨k0, k1, k2, k3, k4, k5⟩ := B0.out.gr G2.out; clear g2))
    obtain ⟨z0, z1, z2, _⟩ := Box3.put (show Box3 w2 w.heap.size 0 0 0 from ⟨k0, k1, k2, k3, k4, k5⟩) A B D
    refine bodyPost_ret (v := .tuple #[.agg #[.int .i64 A, .int .i64 B, .int .i64 D], .int .i64 0]) (by simp [results, Try.results39, go_sem, z0, z1, z2]) rfl ⟨rfl, ?_⟩
    repeat (first | exact G0.out.trans G2.out | refine Gr.alloc ?_ _ | refine Gr.drewN ?_ _ | refine Gr.drew ?_ | refine Gr.setCell ?_ (by simp) _)

end Go.Proofs.Ytbhndfnfohoidaa
