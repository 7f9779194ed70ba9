/- Contracts of chapter 5: the least cost, of the program. -/
import Derived.Test.YtbhndfnfohoidaaW22
namespace Go.Proofs.Ytbhndfnfohoidaa
open Go.RowKit Go.Firn

/-- What Least says. -/
def bN (n : Nat) (X Y : Nat → Int) : Option (Nat × Nat) → Int
  | none => 0
  | some q => pN n X Y q
def bE (n : Nat) (X Y : Nat → Int) : Option (Nat × Nat) → Int
  | none => 0
  | some q => pE n X Y q
def leN (n : Nat) (X Y : Nat → Int) : Int := if vP n X Y then bN n X Y (bst n X Y (prs X n)) else 0
def leD (n : Nat) (X Y : Nat → Int) : Int := if vP n X Y then bE n X Y (bst n X Y (prs X n)) else 0
def leE (n : Nat) (X Y : Nat → Int) : Int := if vP n X Y then 0 else 50

theorem bst_some {n : Nat} {X Y : Nat → Int} (V : VP n X Y) : ∃ q, bst n X Y (prs X n) = some q ∧ IsPr n X q := by
  cases h : bst n X Y (prs X n) with
  | none => exact absurd (bst_none h) (prs_ne V)
  | some q => exact ⟨q, rfl, prs_pr (Nat.le_refl n) q (bst_mem h)⟩

set_option maxHeartbeats 1000000 in
theorem Least_any (a : Option Addr) (n c : Nat) (X Y : Nat → Int) (w : World) (hn : n ≤ 1000) (hr : RdM w a n X Y) :
    Calls Try.prog 19 #[.slice a n c] w (RetRE (leN n X Y) (leD n X Y) (leE n X Y) w) := by
  have G0 := Lib.hid ((Gr.refl w).alloc (.cells #[.int .i64 0, .int .i64 0] 27))
  have B0 := Lib.hid (show Box2 (w.alloc (.cells #[.int .i64 0, .int .i64 0] 27)) w.heap.size 0 0 from Box2.new rfl)
  have HA := Lib.hid (Valid_any a n c X Y (w.alloc (.cells #[.int .i64 0, .int .i64 0] 27)) hn (hr.gr G0.out))
  cases hv : vP n X Y with
  | false =>
    have E := Lib.hid (show leN n X Y = 0 ∧ leD n X Y = 0 ∧ leE n X Y = 50 by unfold leN leD leE; rw [hv]; exact ⟨rfl, rfl, rfl⟩)
    rw [hv] at HA
    clear hr hv hn
    rw [E.out.1, E.out.2.1, E.out.2.2]
    clear E
    go_enter Try.func19, Try.ntmps19
    go_wp2_with (go_at_call 28; refine (HA.out).mono ?_; rintro e w1 ⟨rfl, g1⟩; have G1 := Lib.hid (G0.out.trans g1); obtain ⟨p0, p1, p2, p3⟩ := B0.out.gr g1; clear g1)
    refine bodyPost_ret (v := .tuple #[.agg #[.int .i64 0, .int .i64 0], .int .i64 50]) (by simp [results, Try.results19, go_sem, p0, p1]) rfl ⟨rfl, ?_⟩
    repeat (first | exact G1.out | refine Gr.alloc ?_ _ | refine Gr.drewN ?_ _ | refine Gr.drew ?_ | refine Gr.setCell ?_ (by simp) _)
  | true =>
    have V := vP_iff.1 hv
    obtain ⟨q, hq, hp⟩ := bst_some V
    obtain ⟨hl, _, _⟩ := pr_in V.ok hp
    have HT := Lib.hid (show ∀ w1, Gr (w.alloc (.cells #[.int .i64 0, .int .i64 0] 27)) w1 → Calls Try.prog 60 #[.slice a n c] w1 (RetL (pA X Y q) (pB X Y q) (pD X Y q) w1) from fun w1 g => by
      obtain ⟨b, o, e, _⟩ := hr.at (show 0 < n by have := V.two; omega)
      subst e
      have := best_any b o n c X Y V w1 ((hr.gr G0.out).gr g)
      rw [hq] at this
      exact this)
    have HC := Lib.hid (show ∀ w1, Gr (w.alloc (.cells #[.int .i64 0, .int .i64 0] 27)) w1 → Calls Try.prog 59 #[.slice a n c, .agg #[.int .i64 (pA X Y q), .int .i64 (pB X Y q), .int .i64 (pD X Y q)]] w1 (RetR (pN n X Y q) (pE n X Y q) w1) from fun w1 g =>
      cost_any a n c X Y _ _ _ w1 V.few ((hr.gr G0.out).gr g) V.ok hl)
    have E := Lib.hid (show leN n X Y = pN n X Y q ∧ leD n X Y = pE n X Y q ∧ leE n X Y = 0 by unfold leN leD leE; rw [hv, hq]; exact ⟨rfl, rfl, rfl⟩)
    rw [hv] at HA
    clear hr hv hn V hq hp hl
    rw [E.out.1, E.out.2.1, E.out.2.2]
    clear E
    generalize pA X Y q = lA at *
    generalize pB X Y q = lB at *
    generalize pD X Y q = lD at *
    generalize pN n X Y q = N at *
    generalize pE n X Y q = D at *
    go_enter Try.func19, Try.ntmps19
    go_wp2_with (first
      | (go_at_call 28; refine (HA.out).mono ?_; rintro e w1 ⟨rfl, g1⟩; have G1 := Lib.hid g1; clear g1)
      | (go_at_call 60; refine (HT.out _ G1.out).mono ?_; rintro e w2 ⟨rfl, g2⟩; have G2 := Lib.hid (G1.out.trans g2); clear g2)
      | (go_at_call 59; refine (HC.out _ G2.out).mono ?_; rintro e w3 ⟨rfl, g3⟩; have G3 := Lib.hid (G2.out.trans g3); obtain ⟨q0, q1, q2, q3⟩ := B0.out.gr G3.out; clear g3))
    obtain ⟨z0, z1, _, _⟩ := (show Box2 w3 w.heap.size 0 0 from ⟨q0, q1, q2, q3⟩).put (x' := N) (y' := D)
    refine bodyPost_ret (v := .tuple #[.agg #[.int .i64 N, .int .i64 D], .int .i64 0]) (by simp [results, Try.results19, go_sem, z0, z1]) rfl ⟨rfl, ?_⟩
    repeat (first | exact G0.out.trans G3.out | refine Gr.alloc ?_ _ | refine Gr.drewN ?_ _ | refine Gr.drew ?_ | refine Gr.setCell ?_ (by simp) _)

end Go.Proofs.Ytbhndfnfohoidaa
