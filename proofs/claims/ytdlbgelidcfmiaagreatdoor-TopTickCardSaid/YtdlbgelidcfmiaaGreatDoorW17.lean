/- Contracts of chapter 1: Back of the program. -/
import Derived.Test.YtdlbgelidcfmiaaGreatDoorW16
namespace Go.Proofs.YtdlbgelidcfmiaaGreatDoor
open Go.RowKit Go.Firn

/-- Is a ratio one for Back? -/
def bkR (N D : Int) : Bool := btw 1 D 100000 && btw (-100000000000) N 100000000000
theorem bkR_true {N D : Int} : bkR N D = true ↔ 1 ≤ D ∧ D ≤ 100000 ∧ -100000000000 ≤ N ∧ N ≤ 100000000000 := by
  simp only [bkR, Bool.and_eq_true, btw_true]
  omega
/-- The local time of the clock at N / D. -/
def BN (n : Nat) (L T : Nat → Int) (N D : Int) : Int := rN (bN L T (ix (pB T N D) n) N D) (bD T (ix (pB T N D) n) D)
def BD (n : Nat) (L T : Nat → Int) (N D : Int) : Int := rD (bN L T (ix (pB T N D) n) N D) (bD T (ix (pB T N D) n) D)

set_option maxRecDepth 100000 in
set_option maxHeartbeats 1000000 in
theorem Back_ok (a : Option Addr) (n c : Nat) (L T : Nat → Int) (N D : Int) (w : World) (hn : n ≤ 9223372036854775807) (hr : RdM w a n L T) (hv : vK n L T = true) (hb : bkR N D = true) :
    Calls Tryz.prog 16 #[.slice a n c, .agg #[.int .i64 N, .int .i64 D]] w (RetRE (BN n L T N D) (BD n L T N D) 0 w) := by
  have h2 := (vK_true.1 hv).1
  have hB := (vK_true.1 hv).2.2.1
  have bd := line_bd hv (pB T N D)
  have hND := bkR_true.1 hb
  have Hv := Lib.hid hv
  have b1 := Lib.hid (show btw 1 D 100000 = true by rw [btw_true]; omega)
  have b2 := Lib.hid (show btw (-100000000000) N 100000000000 = true by rw [btw_true]; omega)
  have LN := Lib.hid (fun (w0 w1 : World) (h : RdM w1 a n L T) (q0 : w0.cell? ⟨w.heap.size, 0, none⟩ = some (.int .i64 N)) (q1 : w0.cell? ⟨w.heap.size, 1, none⟩ = some (.int .i64 D)) (g : Gr w0 w1) =>
    line_any 40 (.pointer (some ⟨w.heap.size, 0, none⟩)) cf68 (pB T N D) a n c L T w1 hn h2 h (fun j hj wz gz => back1_any (L j) (T j) N D w.heap.size wz ((g.trans gz).cell q0) ((g.trans gz).cell q1) ⟨(hB j hj).2.2.1, (hB j hj).2.2.2⟩ ⟨hND.1, hND.2.1⟩))
  show Calls Tryz.prog 16 #[.slice a n c, .agg #[.int .i64 N, .int .i64 D]] w (RetRE (rN (bN L T (ix (pB T N D) n) N D) (bD T (ix (pB T N D) n) D)) (rD (bN L T (ix (pB T N D) n) N D) (bD T (ix (pB T N D) n) D)) 0 w)
  unfold bN bD
  generalize L (ix (pB T N D) n) = l0 at *
  generalize T (ix (pB T N D) n) = t0 at *
  generalize L (ix (pB T N D) n + 1) = l1 at *
  generalize T (ix (pB T N D) n + 1) = t1 at *
  clear hv hB hb
  obtain ⟨⟨a1, a2⟩, ⟨a3, a4⟩, ⟨a5, a6⟩, ⟨a7, a8⟩, a9, a10⟩ := bd
  obtain ⟨d1, d2, d3, d4⟩ := hND
  have m1 := mul_bd (a := t0) (b := D) (A := 100000) (B := 100000) (by omega) (by omega) (by omega) (by omega)
  have m2 := mul_bd (a := N - t0 * D) (b := l1 - l0) (A := 200000000000) (B := 100000) (by omega) (by omega) (by omega) (by omega)
  have m3 := mul_bd (a := t1 - t0) (b := D) (A := 100000) (B := 100000) (by omega) (by omega) (by omega) (by omega)
  have m4 := mul_bd (a := l0) (b := (t1 - t0) * D) (A := 100000) (B := 10000000000) (by omega) (by omega) (by omega) (by omega)
  have m5 : 0 < (t1 - t0) * D := Int.mul_pos (by omega) (by omega)
  obtain ⟨m11, m12⟩ := m1
  obtain ⟨m21, m22⟩ := m2
  obtain ⟨m31, m32⟩ := m3
  obtain ⟨m41, m42⟩ := m4
  have hsz : Sz ((N - t0 * D) * (l1 - l0) + l0 * ((t1 - t0) * D)) := ⟨by omega, by omega⟩
  have hsd : Sz ((t1 - t0) * D) := ⟨by omega, by omega⟩
  have RA := Lib.hid (fun w1 => ratio_any ((N - t0 * D) * (l1 - l0) + l0 * ((t1 - t0) * D)) ((t1 - t0) * D) w1 hsz hsd m5)
  have g0 : Gr w ((w.alloc (.cells #[.int .i64 N, .int .i64 D] 37)).alloc (.cells #[.int .i64 0, .int .i64 0] 37)) := ((Gr.refl w).alloc _).alloc _
  go_enter Tryz.func16, Tryz.ntmps16
  go_wp2_with fail
  refine (ValidClock_any a n c L T _ hn (hr.gr g0)).mono ?_
  rintro e w1 ⟨rfl, g⟩
  rw [Hv.out]
  have q0 := g.cell (((Gr.refl _).alloc _).cell (Box2.new (w := w) (b := w.heap.size) (x := N) (y := D) (e := 37) rfl).1)
  have q1 := g.cell (((Gr.refl _).alloc _).cell (Box2.new (w := w) (b := w.heap.size) (x := N) (y := D) (e := 37) rfl).2.1)
  go_wp2_with fail
  refine (between_any 1 D 100000 _).mono ?_
  rintro e w2 ⟨rfl, rfl⟩
  rw [b1.out]
  go_wp2_with fail
  refine (between_any (-100000000000) N 100000000000 _).mono ?_
  rintro e w2 ⟨rfl, rfl⟩
  rw [b2.out]
  go_wp2_with fail
  refine (LN.out w1 w1 (hr.gr (g0.trans g)) q0 q1 (Gr.refl _)).mono ?_
  rintro e w2 ⟨rfl, g2⟩
  have q2 := ((Gr.refl w2).alloc (.cells #[.int .i64 l0, .int .i64 t0, .int .i64 l1, .int .i64 t1] 57)).cell (g2.cell q0)
  have q3 := ((Gr.refl w2).alloc (.cells #[.int .i64 l0, .int .i64 t0, .int .i64 l1, .int .i64 t1] 57)).cell (g2.cell q1)
  replace g := g.trans g2
  clear g2 q0 q1
  go_wp2_with fail
  refine (RA.out _).mono ?_
  rintro e w3 ⟨rfl, g2⟩
  have g3 : Gr w2 w3 := ((Gr.refl w2).alloc _).trans g2
  replace g := g.trans g3
  clear g2 g3
  obtain ⟨s0, f0⟩ := g.fresh' (b := w.heap.size + 1) (j := 0) (by simp) rfl
  obtain ⟨s1, f1⟩ := g.fresh' (b := w.heap.size + 1) (j := 1) (by simp) rfl
  have hsw : w.heap.size + 1 < w3.heap.size := by have := g.freshSize; simp at this; omega
  have G : Gr w w3 := g0.trans g
  clear g q2 q3
  generalize rN ((N - t0 * D) * (l1 - l0) + l0 * ((t1 - t0) * D)) ((t1 - t0) * D) = RN at *
  generalize rD ((N - t0 * D) * (l1 - l0) + l0 * ((t1 - t0) * D)) ((t1 - t0) * D) = RD at *
  go_wp2_with fail
  refine bodyPost_ret (v := .tuple #[.agg #[.int .i64 RN, .int .i64 RD], .int .i64 0]) (by simp [results, Tryz.results16, go_sem, *]) rfl ⟨rfl, ?_⟩
  exact ((G.setAt (by omega) _).setAt (by omega) _)

set_option maxRecDepth 100000 in
theorem Back_any (a : Option Addr) (n c : Nat) (L T : Nat → Int) (N D : Int) (w : World) (hn : n ≤ 9223372036854775807) (hr : RdM w a n L T) :
    Calls Tryz.prog 16 #[.slice a n c, .agg #[.int .i64 N, .int .i64 D]] w (RetRE (okV (vK n L T) (bkR N D) (BN n L T N D)) (okV (vK n L T) (bkR N D) (BD n L T N D)) (okE (vK n L T) (bkR N D)) w) := by
  have g0 : Gr w ((w.alloc (.cells #[.int .i64 N, .int .i64 D] 37)).alloc (.cells #[.int .i64 0, .int .i64 0] 37)) := ((Gr.refl w).alloc _).alloc _
  cases hv : vK n L T with
  | false =>
    have Hv := Lib.hid hv
    clear hv
    go_enter Tryz.func16, Tryz.ntmps16
    go_wp2_with fail
    refine (ValidClock_any a n c L T _ hn (hr.gr g0)).mono ?_
    rintro e w1 ⟨rfl, g⟩
    rw [Hv.out]
    obtain ⟨s0, f0⟩ := g.fresh' (b := w.heap.size + 1) (j := 0) (by simp) rfl
    obtain ⟨s1, f1⟩ := g.fresh' (b := w.heap.size + 1) (j := 1) (by simp) rfl
    have hsz : w.heap.size + 1 < w1.heap.size := by have := g.freshSize; simp at this; omega
    have G : Gr w w1 := g0.trans g
    clear g
    go_wp2_with fail
    refine bodyPost_ret (v := .tuple #[.agg #[.int .i64 0, .int .i64 0], .int .i64 11]) (by simp [results, Tryz.results16, go_sem, *]) rfl ⟨rfl, ?_⟩
    exact ((G.setAt (by omega) _).setAt (by omega) _)
  | true =>
    cases hb : bkR N D with
    | true => exact Back_ok a n c L T N D w hn hr hv hb
    | false =>
      have Hv := Lib.hid hv
      clear hv
      cases b1 : btw 1 D 100000 with
      | false =>
        have B1 := Lib.hid b1
        clear hb b1
        go_enter Tryz.func16, Tryz.ntmps16
        go_wp2_with fail
        refine (ValidClock_any a n c L T _ hn (hr.gr g0)).mono ?_
        rintro e w1 ⟨rfl, g⟩
        rw [Hv.out]
        have q0 := g.cell (((Gr.refl _).alloc _).cell (Box2.new (w := w) (b := w.heap.size) (x := N) (y := D) (e := 37) rfl).1)
        have q1 := g.cell (((Gr.refl _).alloc _).cell (Box2.new (w := w) (b := w.heap.size) (x := N) (y := D) (e := 37) rfl).2.1)
        obtain ⟨s0, f0⟩ := g.fresh' (b := w.heap.size + 1) (j := 0) (by simp) rfl
        obtain ⟨s1, f1⟩ := g.fresh' (b := w.heap.size + 1) (j := 1) (by simp) rfl
        have hsz : w.heap.size + 1 < w1.heap.size := by have := g.freshSize; simp at this; omega
        have G : Gr w w1 := g0.trans g
        clear g
        go_wp2_with fail
        refine (between_any 1 D 100000 _).mono ?_
        rintro e w2 ⟨rfl, rfl⟩
        rw [B1.out]
        go_wp2_with fail
        refine bodyPost_ret (v := .tuple #[.agg #[.int .i64 0, .int .i64 0], .int .i64 2]) (by simp [results, Tryz.results16, go_sem, *]) rfl ⟨rfl, ?_⟩
        exact ((G.setAt (by omega) _).setAt (by omega) _)
      | true =>
        have B1 := Lib.hid b1
        have B2 := Lib.hid (show btw (-100000000000) N 100000000000 = false by simpa [bkR, b1] using hb)
        clear hb b1
        go_enter Tryz.func16, Tryz.ntmps16
        go_wp2_with fail
        refine (ValidClock_any a n c L T _ hn (hr.gr g0)).mono ?_
        rintro e w1 ⟨rfl, g⟩
        rw [Hv.out]
        have q0 := g.cell (((Gr.refl _).alloc _).cell (Box2.new (w := w) (b := w.heap.size) (x := N) (y := D) (e := 37) rfl).1)
        have q1 := g.cell (((Gr.refl _).alloc _).cell (Box2.new (w := w) (b := w.heap.size) (x := N) (y := D) (e := 37) rfl).2.1)
        obtain ⟨s0, f0⟩ := g.fresh' (b := w.heap.size + 1) (j := 0) (by simp) rfl
        obtain ⟨s1, f1⟩ := g.fresh' (b := w.heap.size + 1) (j := 1) (by simp) rfl
        have hsz : w.heap.size + 1 < w1.heap.size := by have := g.freshSize; simp at this; omega
        have G : Gr w w1 := g0.trans g
        clear g
        go_wp2_with fail
        refine (between_any 1 D 100000 _).mono ?_
        rintro e w2 ⟨rfl, rfl⟩
        rw [B1.out]
        go_wp2_with fail
        refine (between_any (-100000000000) N 100000000000 _).mono ?_
        rintro e w2 ⟨rfl, rfl⟩
        rw [B2.out]
        go_wp2_with fail
        refine bodyPost_ret (v := .tuple #[.agg #[.int .i64 0, .int .i64 0], .int .i64 2]) (by simp [results, Tryz.results16, go_sem, *]) rfl ⟨rfl, ?_⟩
        exact ((G.setAt (by omega) _).setAt (by omega) _)

end Go.Proofs.YtdlbgelidcfmiaaGreatDoor
