/- Contracts of chapter 1: at, At and Speed of the reference. -/
import Derived.Test.YtdlbgelidcfmiaaW15
namespace Go.Proofs.Ytdlbgelidcfmiaa
open Go.RowKit Go.Firn

/-- The clock's bounds at the line at x. -/
theorem line_bd {n : Nat} {L T : Nat → Int} (hv : vK n L T = true) (p : Nat → Bool) :
    (0 ≤ L (ix p n) ∧ L (ix p n) ≤ 100000) ∧ (0 ≤ T (ix p n) ∧ T (ix p n) ≤ 100000) ∧ (0 ≤ L (ix p n + 1) ∧ L (ix p n + 1) ≤ 100000) ∧ (0 ≤ T (ix p n + 1) ∧ T (ix p n + 1) ≤ 100000) ∧ L (ix p n) < L (ix p n + 1) ∧ T (ix p n) < T (ix p n + 1) := by
  obtain ⟨h2, _, hb, hs⟩ := vK_true.1 hv
  have hi := ix_lt h2 p
  have b1 := hb _ hi
  have b0 := hb (ix p n) (by omega)
  have := hs _ hi
  omega

set_option maxRecDepth 100000 in
theorem refat_any (a : Option Addr) (n c : Nat) (L T : Nat → Int) (x : Int) (w : World) (hn : n ≤ 9223372036854775807) (hr : RdM w a n L T) (hv : vK n L T = true) (hx : -200000 ≤ x ∧ x ≤ 200000) :
    Calls Try.prog 66 #[.slice a n c, .int .i64 x] w (RetR (AN n L T x) (AD n L T x) w) := by
  have h2 := (vK_true.1 hv).1
  have bd := line_bd hv (pA L x)
  show Calls Try.prog 66 #[.slice a n c, .int .i64 x] w (RetR (rN (aN L T (ix (pA L x) n) x) (aD L (ix (pA L x) n))) (rD (aN L T (ix (pA L x) n) x) (aD L (ix (pA L x) n))) w)
  have RL := Lib.hid (fun w1 (h : RdM w1 a n L T) => refline_any a n c L T x w1 hn h2 h)
  unfold aN aD
  generalize L (ix (pA L x) n) = l0 at *
  generalize T (ix (pA L x) n) = t0 at *
  generalize L (ix (pA L x) n + 1) = l1 at *
  generalize T (ix (pA L x) n + 1) = t1 at *
  clear hv
  obtain ⟨⟨a1, a2⟩, ⟨a3, a4⟩, ⟨a5, a6⟩, ⟨a7, a8⟩, a9, a10⟩ := bd
  have m1 := mul_bd (a := x - l0) (b := t1 - t0) (A := 300000) (B := 100000) (by omega) (by omega) (by omega) (by omega)
  have m2 := mul_bd (a := t0) (b := l1 - l0) (A := 100000) (B := 100000) (by omega) (by omega) (by omega) (by omega)
  obtain ⟨m11, m12⟩ := m1
  obtain ⟨m21, m22⟩ := m2
  obtain ⟨x1, x2⟩ := hx
  have hsz : Sz (t0 * (l1 - l0) + (x - l0) * (t1 - t0)) := ⟨by omega, by omega⟩
  have hsd : Sz (l1 - l0) := ⟨by omega, by omega⟩
  have C := Lib.hid (show t0 * (l1 - l0) + (x - l0) * (t1 - t0) = (x - l0) * (t1 - t0) + t0 * (l1 - l0) by omega)
  have g0 : Gr w (w.alloc (.cells #[.int .i64 0, .int .i64 0] 37)) := (Gr.refl w).alloc _
  go_enter Try.func66, Try.ntmps66
  go_wp2_with fail
  refine (RL.out _ (hr.gr g0)).mono ?_
  rintro e w1 ⟨rfl, g⟩
  go_wp2_with fail
  refine (Ratio_any (t0 * (l1 - l0) + (x - l0) * (t1 - t0)) (l1 - l0) _ hsz hsd (by omega)).mono ?_
  rintro e w2 ⟨rfl, g2⟩
  rw [C.out]
  have g3 : Gr w1 w2 := (((Gr.refl w1).alloc _).alloc _).trans g2
  replace g := g.trans g3
  clear g2 g3
  obtain ⟨s0, f0⟩ := g.fresh' (b := w.heap.size) (j := 0) (by simp) rfl
  obtain ⟨s1, f1⟩ := g.fresh' (b := w.heap.size) (j := 1) (by simp) rfl
  have hsw : w.heap.size < w2.heap.size := g.freshSize
  have G : Gr w w2 := g0.trans g
  clear g
  go_wp2_with fail
  refine bodyPost_ret (v := .agg #[.int .i64 (rN ((x - l0) * (t1 - t0) + t0 * (l1 - l0)) (l1 - l0)), .int .i64 (rD ((x - l0) * (t1 - t0) + t0 * (l1 - l0)) (l1 - l0))]) (by simp [results, Try.results66, go_sem, *]) rfl ⟨rfl, ?_⟩
  exact ((G.setAt (by omega) _).setAt (by omega) _)

set_option maxRecDepth 100000 in
theorem refAt_any (a : Option Addr) (n c : Nat) (L T : Nat → Int) (x : Int) (w : World) (hn : n ≤ 9223372036854775807) (hr : RdM w a n L T) :
    Calls Try.prog 32 #[.slice a n c, .int .i64 x] w (RetRE (okV (vK n L T) (btw 0 x 100000) (AN n L T x)) (okV (vK n L T) (btw 0 x 100000) (AD n L T x)) (okE (vK n L T) (btw 0 x 100000)) w) := by
  have g0 : Gr w (w.alloc (.cells #[.int .i64 0, .int .i64 0] 37)) := (Gr.refl w).alloc _
  cases hv : vK n L T with
  | false =>
    have Hv := Lib.hid hv
    clear hv
    go_enter Try.func32, Try.ntmps32
    go_wp2_with fail
    refine (refValidClock_any a n c L T _ hn (hr.gr g0)).mono ?_
    rintro e w1 ⟨rfl, g⟩
    rw [Hv.out]
    obtain ⟨s0, f0⟩ := g.fresh' (b := w.heap.size) (j := 0) (by simp) rfl
    obtain ⟨s1, f1⟩ := g.fresh' (b := w.heap.size) (j := 1) (by simp) rfl
    have hsz : w.heap.size < w1.heap.size := g.freshSize
    have G : Gr w w1 := g0.trans g
    clear g
    go_wp2_with fail
    refine bodyPost_ret (v := .tuple #[.agg #[.int .i64 0, .int .i64 0], .int .i64 11]) (by simp [results, Try.results32, go_sem, *]) rfl ⟨rfl, ?_⟩
    exact ((G.setAt (by omega) _).setAt (by omega) _)
  | true =>
    have Hv := Lib.hid hv
    cases hx : btw 0 x 100000 with
    | false =>
      have Hx := Lib.hid hx
      clear hv hx
      go_enter Try.func32, Try.ntmps32
      go_wp2_with fail
      refine (refValidClock_any a n c L T _ hn (hr.gr g0)).mono ?_
      rintro e w1 ⟨rfl, g⟩
      rw [Hv.out]
      obtain ⟨s0, f0⟩ := g.fresh' (b := w.heap.size) (j := 0) (by simp) rfl
      obtain ⟨s1, f1⟩ := g.fresh' (b := w.heap.size) (j := 1) (by simp) rfl
      have hsz : w.heap.size < w1.heap.size := g.freshSize
      have G : Gr w w1 := g0.trans g
      clear g
      go_wp2_with fail
      refine (IsTick_any x _).mono ?_
      rintro e w2 ⟨rfl, rfl⟩
      rw [Hx.out]
      go_wp2_with fail
      refine bodyPost_ret (v := .tuple #[.agg #[.int .i64 0, .int .i64 0], .int .i64 2]) (by simp [results, Try.results32, go_sem, *]) rfl ⟨rfl, ?_⟩
      exact ((G.setAt (by omega) _).setAt (by omega) _)
    | true =>
      have Hx := Lib.hid hx
      have hx2 := btw_true.1 hx
      clear hx
      show Calls Try.prog 32 #[.slice a n c, .int .i64 x] w (RetRE (AN n L T x) (AD n L T x) 0 w)
      generalize hN : AN n L T x = N
      generalize hD : AD n L T x = D
      have HN := Lib.hid hN
      have HD := Lib.hid hD
      clear hN hD
      have RA := Lib.hid (fun w1 (h : RdM w1 a n L T) => refat_any a n c L T x w1 hn h hv (by omega))
      clear hv
      go_enter Try.func32, Try.ntmps32
      go_wp2_with fail
      refine (refValidClock_any a n c L T _ hn (hr.gr g0)).mono ?_
      rintro e w1 ⟨rfl, g⟩
      rw [Hv.out]
      go_wp2_with fail
      refine (IsTick_any x _).mono ?_
      rintro e w2 ⟨rfl, rfl⟩
      rw [Hx.out]
      go_wp2_with fail
      refine (RA.out _ (hr.gr (g0.trans g))).mono ?_
      rintro e w2 ⟨rfl, g2⟩
      rw [HN.out, HD.out]
      replace g := g.trans g2
      clear g2
      obtain ⟨s0, f0⟩ := g.fresh' (b := w.heap.size) (j := 0) (by simp) rfl
      obtain ⟨s1, f1⟩ := g.fresh' (b := w.heap.size) (j := 1) (by simp) rfl
      have hsz : w.heap.size < w2.heap.size := g.freshSize
      have G : Gr w w2 := g0.trans g
      clear g
      go_wp2_with fail
      refine bodyPost_ret (v := .tuple #[.agg #[.int .i64 N, .int .i64 D], .int .i64 0]) (by simp [results, Try.results32, go_sem, *]) rfl ⟨rfl, ?_⟩
      exact ((G.setAt (by omega) _).setAt (by omega) _)

set_option maxRecDepth 100000 in
theorem refSpeed_any (a : Option Addr) (n c : Nat) (L T : Nat → Int) (x : Int) (w : World) (hn : n ≤ 9223372036854775807) (hr : RdM w a n L T) :
    Calls Try.prog 38 #[.slice a n c, .int .i64 x] w (RetRE (okV (vK n L T) (btw 0 x 100000) (SN n L T x)) (okV (vK n L T) (btw 0 x 100000) (SD n L T x)) (okE (vK n L T) (btw 0 x 100000)) w) := by
  have g0 : Gr w (w.alloc (.cells #[.int .i64 0, .int .i64 0] 37)) := (Gr.refl w).alloc _
  cases hv : vK n L T with
  | false =>
    have Hv := Lib.hid hv
    clear hv
    go_enter Try.func38, Try.ntmps38
    go_wp2_with fail
    refine (refValidClock_any a n c L T _ hn (hr.gr g0)).mono ?_
    rintro e w1 ⟨rfl, g⟩
    rw [Hv.out]
    obtain ⟨s0, f0⟩ := g.fresh' (b := w.heap.size) (j := 0) (by simp) rfl
    obtain ⟨s1, f1⟩ := g.fresh' (b := w.heap.size) (j := 1) (by simp) rfl
    have hsz : w.heap.size < w1.heap.size := g.freshSize
    have G : Gr w w1 := g0.trans g
    clear g
    go_wp2_with fail
    refine bodyPost_ret (v := .tuple #[.agg #[.int .i64 0, .int .i64 0], .int .i64 11]) (by simp [results, Try.results38, go_sem, *]) rfl ⟨rfl, ?_⟩
    exact ((G.setAt (by omega) _).setAt (by omega) _)
  | true =>
    have Hv := Lib.hid hv
    cases hx : btw 0 x 100000 with
    | false =>
      have Hx := Lib.hid hx
      clear hv hx
      go_enter Try.func38, Try.ntmps38
      go_wp2_with fail
      refine (refValidClock_any a n c L T _ hn (hr.gr g0)).mono ?_
      rintro e w1 ⟨rfl, g⟩
      rw [Hv.out]
      obtain ⟨s0, f0⟩ := g.fresh' (b := w.heap.size) (j := 0) (by simp) rfl
      obtain ⟨s1, f1⟩ := g.fresh' (b := w.heap.size) (j := 1) (by simp) rfl
      have hsz : w.heap.size < w1.heap.size := g.freshSize
      have G : Gr w w1 := g0.trans g
      clear g
      go_wp2_with fail
      refine (IsTick_any x _).mono ?_
      rintro e w2 ⟨rfl, rfl⟩
      rw [Hx.out]
      go_wp2_with fail
      refine bodyPost_ret (v := .tuple #[.agg #[.int .i64 0, .int .i64 0], .int .i64 2]) (by simp [results, Try.results38, go_sem, *]) rfl ⟨rfl, ?_⟩
      exact ((G.setAt (by omega) _).setAt (by omega) _)
    | true =>
      have Hx := Lib.hid hx
      clear hx
      have h2 := (vK_true.1 hv).1
      have bd := line_bd hv (pA L x)
      show Calls Try.prog 38 #[.slice a n c, .int .i64 x] w (RetRE (rN (aD T (ix (pA L x) n)) (aD L (ix (pA L x) n))) (rD (aD T (ix (pA L x) n)) (aD L (ix (pA L x) n))) 0 w)
      have RL := Lib.hid (fun w1 (h : RdM w1 a n L T) => refline_any a n c L T x w1 hn h2 h)
      unfold aD
      generalize L (ix (pA L x) n) = l0 at *
      generalize T (ix (pA L x) n) = t0 at *
      generalize L (ix (pA L x) n + 1) = l1 at *
      generalize T (ix (pA L x) n + 1) = t1 at *
      have SP := Lib.hid (fun w1 => refspeed_any l0 t0 l1 t1 w1 bd.1 bd.2.1 bd.2.2.1 bd.2.2.2.1 bd.2.2.2.2.1)
      clear hv bd
      generalize rN (t1 - t0) (l1 - l0) = N at *
      generalize rD (t1 - t0) (l1 - l0) = D at *
      go_enter Try.func38, Try.ntmps38
      go_wp2_with fail
      refine (refValidClock_any a n c L T _ hn (hr.gr g0)).mono ?_
      rintro e w1 ⟨rfl, g⟩
      rw [Hv.out]
      go_wp2_with fail
      refine (IsTick_any x _).mono ?_
      rintro e w2 ⟨rfl, rfl⟩
      rw [Hx.out]
      go_wp2_with fail
      refine (RL.out _ (hr.gr (g0.trans g))).mono ?_
      rintro e w2 ⟨rfl, g2⟩
      replace g := g.trans g2
      clear g2
      go_wp2_with fail
      refine (SP.out _).mono ?_
      rintro e w3 ⟨rfl, g2⟩
      have g3 : Gr w2 w3 := (((Gr.refl w2).alloc _).alloc _).trans g2
      replace g := g.trans g3
      clear g2 g3
      obtain ⟨s0, f0⟩ := g.fresh' (b := w.heap.size) (j := 0) (by simp) rfl
      obtain ⟨s1, f1⟩ := g.fresh' (b := w.heap.size) (j := 1) (by simp) rfl
      have hsz : w.heap.size < w3.heap.size := g.freshSize
      have G : Gr w w3 := g0.trans g
      clear g
      go_wp2_with fail
      refine bodyPost_ret (v := .tuple #[.agg #[.int .i64 N, .int .i64 D], .int .i64 0]) (by simp [results, Try.results38, go_sem, *]) rfl ⟨rfl, ?_⟩
      exact ((G.setAt (by omega) _).setAt (by omega) _)

end Go.Proofs.Ytdlbgelidcfmiaa
