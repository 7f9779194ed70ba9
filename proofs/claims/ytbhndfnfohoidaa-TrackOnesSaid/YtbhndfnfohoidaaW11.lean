/- Contracts of chapter 5: what a witness tells, of the program and of the reference; the narrowest width. -/
import Derived.Test.YtbhndfnfohoidaaW10
import Derived.Test.YtbhndfnfohoidaaWA
namespace Go.Proofs.Ytbhndfnfohoidaa
open Go.RowKit Go.Firn Go.Shelf

/-- What Tells says. -/
def teN (n : Nat) (X Y : Nat → Int) (m : Nat) (l : Nat → Int) : Int := if vP n X Y && witB n X m l then tlN X Y m l else 0
def teD (n : Nat) (X Y : Nat → Int) (m : Nat) (l : Nat → Int) : Int := if vP n X Y && witB n X m l then tlD X Y m l else 0
def teE (n : Nat) (X Y : Nat → Int) (m : Nat) (l : Nat → Int) : Int := if vP n X Y then (if witB n X m l then 0 else 2) else 50

set_option maxHeartbeats 1000000 in
theorem Tells_any (a : Option Addr) (n c : Nat) (X Y : Nat → Int) (a2 : Option Addr) (m c2 : Nat) (l : Nat → Int) (w : World) (hn : n ≤ 1000) (hm : m ≤ 1000) (hmc : m ≤ c2) (hr : RdM w a n X Y) (hl : RdI w a2 m l) :
    Calls Try.prog 17 #[.slice a n c, .slice a2 m c2] w (RetRE (teN n X Y m l) (teD n X Y m l) (teE n X Y m l) w) := by
  have G0 := Lib.hid ((Gr.refl w).alloc (.cells #[.int .i64 0, .int .i64 0] 27))
  have B0 := Lib.hid (show Box2 (w.alloc (.cells #[.int .i64 0, .int .i64 0] 27)) w.heap.size 0 0 from Box2.new rfl)
  have HA := Lib.hid (Valid_any a n c X Y (w.alloc (.cells #[.int .i64 0, .int .i64 0] 27)) hn (hr.gr G0.out))
  cases hv : vP n X Y with
  | false =>
    have E := Lib.hid (show teN n X Y m l = 0 ∧ teD n X Y m l = 0 ∧ teE n X Y m l = 50 by unfold teN teD teE; rw [hv]; exact ⟨rfl, rfl, rfl⟩)
    rw [hv] at HA
    clear hr hl hv hn hm hmc
    rw [E.out.1, E.out.2.1, E.out.2.2]
    clear E
    go_enter Try.func17, Try.ntmps17
    go_wp2_with (go_at_call 28; refine (HA.out).mono ?_; rintro e w1 ⟨rfl, g1⟩; have G1 := Lib.hid (G0.out.trans g1); obtain ⟨p0, p1, p2, p3⟩ := B0.out.gr g1; clear g1)
    refine bodyPost_ret (v := .tuple #[.agg #[.int .i64 0, .int .i64 0], .int .i64 50]) (by simp [results, Try.results17, go_sem, p0, p1]) rfl ⟨rfl, ?_⟩
    repeat (first | exact G1.out | refine Gr.alloc ?_ _ | refine Gr.drewN ?_ _ | refine Gr.drew ?_ | refine Gr.setCell ?_ (by simp) _)
  | true =>
    have HT := Lib.hid (fun w1 (g : Gr (w.alloc (.cells #[.int .i64 0, .int .i64 0] 27)) w1) => tells_any a n c X Y (vP_iff.1 hv) a2 m c2 l w1 hm hmc ((hr.gr G0.out).gr g) ((hl.gr G0.out).gr g))
    rw [hv] at HA
    cases hw : witB n X m l with
    | false =>
      have E := Lib.hid (show teN n X Y m l = 0 ∧ teD n X Y m l = 0 ∧ teE n X Y m l = 2 by unfold teN teD teE; rw [hv, hw]; exact ⟨rfl, rfl, rfl⟩)
      have HW := Lib.hid hw
      clear hr hl hv hn hm hmc hw
      rw [E.out.1, E.out.2.1, E.out.2.2]
      clear E
      go_enter Try.func17, Try.ntmps17
      go_wp2_with (first
        | (go_at_call 28; refine (HA.out).mono ?_; rintro e w1 ⟨rfl, g1⟩; have G1 := Lib.hid g1; obtain ⟨p0, p1, p2, p3⟩ := B0.out.gr g1; clear g1)
        | (go_at_call 57; refine (HT.out _ G1.out).mono ?_; rintro e w2 ⟨N, D, rfl, hND, g2⟩; rw [HW.out]; have G2 := Lib.hid (G0.out.trans (G1.out.trans g2)); obtain ⟨q0, q1, q2, q3⟩ := (show Box2 w1 w.heap.size 0 0 from ⟨p0, p1, p2, p3⟩).gr g2; have l0 : w.heap.size < w2.heap.size := World.block_lt_of_cell? w2 _ q0; clear hND g2))
      obtain ⟨z0, z1, _, _⟩ := ((show Box2 w2 w.heap.size 0 0 from ⟨q0, q1, q2, q3⟩).put (x' := 0) (y' := 0)).gr ((Gr.refl _).alloc (.cells #[.int .i64 N, .int .i64 D] 27))
      refine bodyPost_ret (v := .tuple #[.agg #[.int .i64 0, .int .i64 0], .int .i64 2]) (by simp [results, Try.results17, go_sem, z0, z1]) rfl ⟨rfl, ?_⟩
      repeat (first | exact G2.out | refine Gr.alloc ?_ _ | refine Gr.drewN ?_ _ | refine Gr.drew ?_ | refine Gr.setCell ?_ (by simp) _)
    | true =>
      have E := Lib.hid (show teN n X Y m l = tlN X Y m l ∧ teD n X Y m l = tlD X Y m l ∧ teE n X Y m l = 0 by unfold teN teD teE; rw [hv, hw]; exact ⟨rfl, rfl, rfl⟩)
      have HW := Lib.hid hw
      clear hr hl hv hn hm hmc hw
      rw [E.out.1, E.out.2.1, E.out.2.2]
      clear E
      go_enter Try.func17, Try.ntmps17
      go_wp2_with (first
        | (go_at_call 28; refine (HA.out).mono ?_; rintro e w1 ⟨rfl, g1⟩; have G1 := Lib.hid g1; obtain ⟨p0, p1, p2, p3⟩ := B0.out.gr g1; clear g1)
        | (go_at_call 57; refine (HT.out _ G1.out).mono ?_; rintro e w2 ⟨N, D, rfl, hND, g2⟩; obtain ⟨rfl, rfl⟩ := hND HW.out; rw [HW.out]; have G2 := Lib.hid (G0.out.trans (G1.out.trans g2)); obtain ⟨q0, q1, q2, q3⟩ := (show Box2 w1 w.heap.size 0 0 from ⟨p0, p1, p2, p3⟩).gr g2; have l0 : w.heap.size < w2.heap.size := World.block_lt_of_cell? w2 _ q0; clear hND g2))
      obtain ⟨z0, z1, _, _⟩ := ((show Box2 w2 w.heap.size 0 0 from ⟨q0, q1, q2, q3⟩).put (x' := tlN X Y m l) (y' := tlD X Y m l)).gr ((Gr.refl _).alloc (.cells #[.int .i64 (tlN X Y m l), .int .i64 (tlD X Y m l)] 27))
      refine bodyPost_ret (v := .tuple #[.agg #[.int .i64 (tlN X Y m l), .int .i64 (tlD X Y m l)], .int .i64 0]) (by simp [results, Try.results17, go_sem, z0, z1]) rfl ⟨rfl, ?_⟩
      repeat (first | exact G2.out | refine Gr.alloc ?_ _ | refine Gr.drewN ?_ _ | refine Gr.drew ?_ | refine Gr.setCell ?_ (by simp) _)

set_option maxHeartbeats 1000000 in
theorem refTells_any (a : Option Addr) (n c : Nat) (X Y : Nat → Int) (a2 : Option Addr) (m c2 : Nat) (l : Nat → Int) (w : World) (hn : n ≤ 1000) (hm : m ≤ 1000) (hmc : m ≤ c2) (hr : RdM w a n X Y) (hl : RdI w a2 m l) :
    Calls Try.prog 18 #[.slice a n c, .slice a2 m c2] w (RetRE (teN n X Y m l) (teD n X Y m l) (teE n X Y m l) w) := by
  have G0 := Lib.hid ((Gr.refl w).alloc (.cells #[.int .i64 0, .int .i64 0] 27))
  have B0 := Lib.hid (show Box2 (w.alloc (.cells #[.int .i64 0, .int .i64 0] 27)) w.heap.size 0 0 from Box2.new rfl)
  have HA := Lib.hid (refValid_any a n c X Y (w.alloc (.cells #[.int .i64 0, .int .i64 0] 27)) hn (hr.gr G0.out))
  cases hv : vP n X Y with
  | false =>
    have E := Lib.hid (show teN n X Y m l = 0 ∧ teD n X Y m l = 0 ∧ teE n X Y m l = 50 by unfold teN teD teE; rw [hv]; exact ⟨rfl, rfl, rfl⟩)
    rw [hv] at HA
    clear hr hl hv hn hm hmc
    rw [E.out.1, E.out.2.1, E.out.2.2]
    clear E
    go_enter Try.func18, Try.ntmps18
    go_wp2_with (go_at_call 29; refine (HA.out).mono ?_; rintro e w1 ⟨rfl, g1⟩; have G1 := Lib.hid (G0.out.trans g1); obtain ⟨p0, p1, p2, p3⟩ := B0.out.gr g1; clear g1)
    refine bodyPost_ret (v := .tuple #[.agg #[.int .i64 0, .int .i64 0], .int .i64 50]) (by simp [results, Try.results18, go_sem, p0, p1]) rfl ⟨rfl, ?_⟩
    repeat (first | exact G1.out | refine Gr.alloc ?_ _ | refine Gr.drewN ?_ _ | refine Gr.drew ?_ | refine Gr.setCell ?_ (by simp) _)
  | true =>
    have HT := Lib.hid (fun w1 (g : Gr (w.alloc (.cells #[.int .i64 0, .int .i64 0] 27)) w1) => reftells_any a n c X Y (vP_iff.1 hv) a2 m c2 l w1 hm hmc ((hr.gr G0.out).gr g) ((hl.gr G0.out).gr g))
    rw [hv] at HA
    cases hw : witB n X m l with
    | false =>
      have E := Lib.hid (show teN n X Y m l = 0 ∧ teD n X Y m l = 0 ∧ teE n X Y m l = 2 by unfold teN teD teE; rw [hv, hw]; exact ⟨rfl, rfl, rfl⟩)
      have HW := Lib.hid hw
      clear hr hl hv hn hm hmc hw
      rw [E.out.1, E.out.2.1, E.out.2.2]
      clear E
      go_enter Try.func18, Try.ntmps18
      go_wp2_with (first
        | (go_at_call 29; refine (HA.out).mono ?_; rintro e w1 ⟨rfl, g1⟩; have G1 := Lib.hid g1; obtain ⟨p0, p1, p2, p3⟩ := B0.out.gr g1; clear g1)
        | (go_at_call 58; refine (HT.out _ G1.out).mono ?_; rintro e w2 ⟨N, D, rfl, hND, g2⟩; rw [HW.out]; have G2 := Lib.hid (G0.out.trans (G1.out.trans g2)); obtain ⟨q0, q1, q2, q3⟩ := (show Box2 w1 w.heap.size 0 0 from ⟨p0, p1, p2, p3⟩).gr g2; have l0 : w.heap.size < w2.heap.size := World.block_lt_of_cell? w2 _ q0; clear hND g2))
      obtain ⟨z0, z1, _, _⟩ := ((show Box2 w2 w.heap.size 0 0 from ⟨q0, q1, q2, q3⟩).put (x' := 0) (y' := 0)).gr ((Gr.refl _).alloc (.cells #[.int .i64 N, .int .i64 D] 27))
      refine bodyPost_ret (v := .tuple #[.agg #[.int .i64 0, .int .i64 0], .int .i64 2]) (by simp [results, Try.results18, go_sem, z0, z1]) rfl ⟨rfl, ?_⟩
      repeat (first | exact G2.out | refine Gr.alloc ?_ _ | refine Gr.drewN ?_ _ | refine Gr.drew ?_ | refine Gr.setCell ?_ (by simp) _)
    | true =>
      have E := Lib.hid (show teN n X Y m l = tlN X Y m l ∧ teD n X Y m l = tlD X Y m l ∧ teE n X Y m l = 0 by unfold teN teD teE; rw [hv, hw]; exact ⟨rfl, rfl, rfl⟩)
      have HW := Lib.hid hw
      clear hr hl hv hn hm hmc hw
      rw [E.out.1, E.out.2.1, E.out.2.2]
      clear E
      go_enter Try.func18, Try.ntmps18
      go_wp2_with (first
        | (go_at_call 29; refine (HA.out).mono ?_; rintro e w1 ⟨rfl, g1⟩; have G1 := Lib.hid g1; obtain ⟨p0, p1, p2, p3⟩ := B0.out.gr g1; clear g1)
        | (go_at_call 58; refine (HT.out _ G1.out).mono ?_; rintro e w2 ⟨N, D, rfl, hND, g2⟩; obtain ⟨rfl, rfl⟩ := hND HW.out; rw [HW.out]; have G2 := Lib.hid (G0.out.trans (G1.out.trans g2)); obtain ⟨q0, q1, q2, q3⟩ := (show Box2 w1 w.heap.size 0 0 from ⟨p0, p1, p2, p3⟩).gr g2; have l0 : w.heap.size < w2.heap.size := World.block_lt_of_cell? w2 _ q0; clear hND g2))
      obtain ⟨z0, z1, _, _⟩ := ((show Box2 w2 w.heap.size 0 0 from ⟨q0, q1, q2, q3⟩).put (x' := tlN X Y m l) (y' := tlD X Y m l)).gr ((Gr.refl _).alloc (.cells #[.int .i64 (tlN X Y m l), .int .i64 (tlD X Y m l)] 27))
      refine bodyPost_ret (v := .tuple #[.agg #[.int .i64 (tlN X Y m l), .int .i64 (tlD X Y m l)], .int .i64 0]) (by simp [results, Try.results18, go_sem, z0, z1]) rfl ⟨rfl, ?_⟩
      repeat (first | exact G2.out | refine Gr.alloc ?_ _ | refine Gr.drewN ?_ _ | refine Gr.drew ?_ | refine Gr.setCell ?_ (by simp) _)

end Go.Proofs.Ytbhndfnfohoidaa
