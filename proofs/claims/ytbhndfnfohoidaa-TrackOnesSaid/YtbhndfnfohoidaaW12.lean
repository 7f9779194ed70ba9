/- Contracts of chapter 5: the narrowest width; Awake. -/
import Derived.Test.YtbhndfnfohoidaaW11
namespace Go.Proofs.Ytbhndfnfohoidaa
open Go.RowKit Go.Firn Go.Shelf

/-- What Narrowest says. -/
def naN (n : Nat) (X Y : Nat → Int) : Int := if vP n X Y then (witS X Y (wits n X)).N else 0
def naD (n : Nat) (X Y : Nat → Int) : Int := if vP n X Y then (witS X Y (wits n X)).D else 0
def naE (n : Nat) (X Y : Nat → Int) : Int := if vP n X Y then 0 else 50

set_option maxHeartbeats 1000000 in
theorem Narrowest_any (a : Option Addr) (n c : Nat) (X Y : Nat → Int) (w : World) (hn : n ≤ 1000) (hr : RdM w a n X Y) :
    Calls Try.prog 21 #[.slice a n c] w (RetRE (naN n X Y) (naD n X Y) (naE n X Y) w) := by
  have G0 := Lib.hid ((Gr.refl w).alloc (.cells #[.int .i64 0, .int .i64 0] 27))
  have B0 := Lib.hid (show Box2 (w.alloc (.cells #[.int .i64 0, .int .i64 0] 27)) w.heap.size 0 0 from Box2.new rfl)
  have HA := Lib.hid (Valid_any a n c X Y (w.alloc (.cells #[.int .i64 0, .int .i64 0] 27)) hn (hr.gr G0.out))
  cases hv : vP n X Y with
  | false =>
    have E := Lib.hid (show naN n X Y = 0 ∧ naD n X Y = 0 ∧ naE n X Y = 50 by unfold naN naD naE; rw [hv]; exact ⟨rfl, rfl, rfl⟩)
    rw [hv] at HA
    clear hr hv hn
    rw [E.out.1, E.out.2.1, E.out.2.2]
    clear E
    go_enter Try.func21, Try.ntmps21
    go_wp2_with (go_at_call 28; refine (HA.out).mono ?_; rintro e w1 ⟨rfl, g1⟩; have G1 := Lib.hid (G0.out.trans g1); obtain ⟨p0, p1, p2, p3⟩ := B0.out.gr g1; clear g1)
    refine bodyPost_ret (v := .tuple #[.agg #[.int .i64 0, .int .i64 0], .int .i64 50]) (by simp [results, Try.results21, go_sem, p0, p1]) rfl ⟨rfl, ?_⟩
    repeat (first | exact G1.out | refine Gr.alloc ?_ _ | refine Gr.drewN ?_ _ | refine Gr.drew ?_ | refine Gr.setCell ?_ (by simp) _)
  | true =>
    have V := vP_iff.1 hv
    have HT := Lib.hid (show ∀ w1, Gr (w.alloc (.cells #[.int .i64 0, .int .i64 0] 27)) w1 → Calls Try.prog 63 #[.slice a n c] w1 (RetWit n X Y w1) from fun w1 g => by
      obtain ⟨b, o, e, _⟩ := hr.at (show 0 < n by have := V.two; omega)
      subst e
      exact witness_any b o n c X Y V w1 ((hr.gr G0.out).gr g))
    have E := Lib.hid (show naN n X Y = (witS X Y (wits n X)).N ∧ naD n X Y = (witS X Y (wits n X)).D ∧ naE n X Y = 0 by unfold naN naD naE; rw [hv]; exact ⟨rfl, rfl, rfl⟩)
    rw [hv] at HA
    clear hr hv hn V
    rw [E.out.1, E.out.2.1, E.out.2.2]
    clear E
    unfold RetWit at HT
    generalize witS X Y (wits n X) = s at *
    go_enter Try.func21, Try.ntmps21
    go_wp2_with (first
      | (go_at_call 28; refine (HA.out).mono ?_; rintro e w1 ⟨rfl, g1⟩; have G1 := Lib.hid g1; obtain ⟨p0, p1, p2, p3⟩ := B0.out.gr g1; clear g1)
      | (go_at_call 63; refine (HT.out _ G1.out).mono ?_; rintro e w2 ⟨v, rfl, _, g2⟩; have G2 := Lib.hid (G0.out.trans (G1.out.trans g2)); obtain ⟨q0, q1, q2, q3⟩ := (show Box2 w1 w.heap.size 0 0 from ⟨p0, p1, p2, p3⟩).gr g2; have l0 : w.heap.size < w2.heap.size := World.block_lt_of_cell? w2 _ q0; clear g2))
    obtain ⟨z0, z1, _, _⟩ := ((show Box2 w2 w.heap.size 0 0 from ⟨q0, q1, q2, q3⟩).put (x' := s.N) (y' := s.D)).gr ((Gr.refl _).alloc (.cells #[.int .i64 s.N, .int .i64 s.D] 27))
    refine bodyPost_ret (v := .tuple #[.agg #[.int .i64 s.N, .int .i64 s.D], .int .i64 0]) (by simp [results, Try.results21, go_sem, z0, z1]) rfl ⟨rfl, ?_⟩
    repeat (first | exact G2.out | refine Gr.alloc ?_ _ | refine Gr.drewN ?_ _ | refine Gr.drew ?_ | refine Gr.setCell ?_ (by simp) _)

def aX (i : Nat) : Int := if i = 2 then 1 else 0
def aY (i : Nat) : Int := if i = 0 then 0 else if i = 1 then 4 else 1
theorem awake_val : naN 3 aX aY = 2 ∧ naD 3 aX aY = 1 ∧ naE 3 aX aY = 0 := by decide +kernel

theorem Awake_any (w : World) : Calls Try.prog 16 #[] w fun e w' => e = .returned (.bool true) ∧ Gr w w' := by
  have HR := Lib.hid (show RdM (w.alloc (.cells #[.int .i64 0, .int .i64 0, .int .i64 0, .int .i64 4, .int .i64 1, .int .i64 1] 56)) (some ⟨w.heap.size, 0, none⟩) 3 aX aY from .inr ⟨w.heap.size, 0, rfl, fun i hi => by
    have f := fun j v h => ((Gr.refl (w.alloc (.cells #[.int .i64 0, .int .i64 0, .int .i64 0, .int .i64 4, .int .i64 1, .int .i64 1] 56))).fresh' (b := w.heap.size) (j := j) (v := v) rfl h).1
    match i, hi with
    | 0, _ => exact ⟨f 0 _ rfl, f 1 _ rfl⟩
    | 1, _ => exact ⟨f 2 _ rfl, f 3 _ rfl⟩
    | 2, _ => exact ⟨f 4 _ rfl, f 5 _ rfl⟩⟩)
  have HC := Lib.hid (Narrowest_any (some ⟨w.heap.size, 0, none⟩) 3 3 aX aY _ (by omega) HR.out)
  rw [awake_val.1, awake_val.2.1, awake_val.2.2] at HC
  go_enter Try.func16, Try.ntmps16
  go_wp2_with (go_at_call 21; refine (HC.out).mono ?_; rintro e w1 ⟨rfl, g1⟩; have G1 := Lib.hid (((Gr.refl w).alloc _).trans g1); clear g1)
  go_ret
  exact ⟨rfl, G1.out.alloc _⟩

end Go.Proofs.Ytbhndfnfohoidaa
