/- Contracts of chapter 1: Back of the reference. -/
import Derived.Test.YtdlbgelidcfmiaaW17
import Derived.Test.YtdlbgelidcfmiaaP6
import Derived.Deep.DeepCutAuto
namespace Go.Proofs.Ytdlbgelidcfmiaa
open Go.RowKit Go.Firn

set_option maxRecDepth 100000 in
set_option maxHeartbeats 2000000 in
theorem refBack_ok (a : Option Addr) (n c : Nat) (L T : Nat → Int) (N D : Int) (w : World) (hn : n ≤ 9223372036854775807) (hr : RdM w a n L T) (hv : vK n L T = true) (hb : bkR N D = true) :
    Calls Try.prog 36 #[.slice a n c, .agg #[.int .i64 N, .int .i64 D]] w (RetRE (rN (bN L T (rx T N D (n - 2)) N D) (bD T (rx T N D (n - 2)) D)) (rD (bN L T (rx T N D (n - 2)) N D) (bD T (rx T N D (n - 2)) D)) 0 w) := by
  obtain ⟨h2, _, hB, hs⟩ := vK_true.1 hv
  obtain ⟨d1, d2, d3, d4⟩ := bkR_true.1 hb
  have Hv := Lib.hid hv
  have HB := Lib.hid hB
  have HS := Lib.hid hs
  clear hv hb hB hs
  obtain ⟨b, o, rfl, hc⟩ := hr.at (k := 0) (by omega)
  have Hc := Lib.hid hc
  clear hc
  have e1 : decide (D < 1) = false := by simp; omega
  have e2 : decide (100000 < D) = false := by simp; omega
  have e3 : decide (N < -100000000000) = false := by simp; omega
  have e4 : decide (100000000000 < N) = false := by simp; omega
  have g0 : Gr w ((w.alloc (.cells #[.int .i64 N, .int .i64 D] 37)).alloc (.cells #[.int .i64 0, .int .i64 0] 37)) := ((Gr.refl w).alloc _).alloc _
  go_enter Try.func36, Try.ntmps36
  go_wp2_with fail
  refine (refValidClock_any _ n c L T _ hn (hr.gr g0)).mono ?_
  rintro e w1 ⟨rfl, g⟩
  rw [Hv.out]
  clear hr
  have q0 := g.cell (((Gr.refl _).alloc _).cell (Box2.new (w := w) (b := w.heap.size) (x := N) (y := D) (e := 37) rfl).1)
  have q1 := g.cell (((Gr.refl _).alloc _).cell (Box2.new (w := w) (b := w.heap.size) (x := N) (y := D) (e := 37) rfl).2.1)
  have G1 : Gr w w1 := g0.trans g
  have c1 := G1.cell (Hc.out 0 (by omega)).1
  have c2 := G1.cell (Hc.out 0 (by omega)).2
  have c3 := G1.cell (Hc.out 1 (by omega)).1
  have c4 := G1.cell (Hc.out 1 (by omega)).2
  simp only [Nat.zero_mul, Nat.add_zero, Nat.one_mul] at c1 c2 c3 c4
  have hb0 : b < w1.heap.size := World.block_lt_of_cell? w1 _ c1
  have hb1 : w1.heap.size ≠ b := by omega
  have hb2 : w1.heap.size + 1 ≠ b := by omega
  have hb3 : ¬ b = w1.heap.size := by omega
  have hb4 : ¬ b = w1.heap.size + 1 := by omega
  have i1 : (0 : Int) < n := by omega
  have i2 : (1 : Int) < n := by omega
  have i3 : 0 < n := by omega
  have i4 : 1 < n := by omega
  have z1 : w.heap.size + 1 < w1.heap.size := by have := g.freshSize; simp at this; omega
  go_upto_region 5 with (fail)
  go_cut [6, 7] (fun s6 s7 wx => ∃ ba bb : Nat, s6 = .pointer (some ⟨ba, 0, none⟩) ∧ s7 = .pointer (some ⟨bb, 0, none⟩) ∧ Hid (ba ≠ bb) ∧ Hid (w.heap.size + 1 < ba) ∧ Hid (w.heap.size + 1 < bb) ∧ Hid (Box2 wx ba (L 0) (T 0)) ∧ Hid (Box2 wx bb (L 1) (T 1)) ∧ Gr w1 wx)
  case first =>
    go_region_held3 (fun w' => w'.cell? ⟨b, o, none⟩ = some (.int .i64 (L 0)) ∧ w'.cell? ⟨b, o + 1, none⟩ = some (.int .i64 (T 0)) ∧ w'.cell? ⟨b, o + 2, none⟩ = some (.int .i64 (L 1)) ∧ w'.cell? ⟨b, o + 2 + 1, none⟩ = some (.int .i64 (T 1)))
      (go_keep) (fail)
    all_goals go_wp2_with fail
    · go_meet
      exact ⟨_, _, rfl, rfl, (by show _ ≠ _; omega), (by show _ < _; omega), (by show _ < _; omega), ((Box2.new rfl).gr ((Gr.refl _).alloc _)).drew, (Box2.new (by simp)).drew, ((((Gr.refl w1).alloc _).alloc _).drew)⟩
    · go_meet
      exact ⟨_, _, rfl, rfl, (by show _ ≠ _; omega), (by show _ < _; omega), (by show _ < _; omega), (Box2.new (by simp)).drew, ((Box2.new rfl).gr ((Gr.refl _).alloc _)).drew, ((((Gr.refl w1).alloc _).alloc _).drew)⟩
  case rest =>
    obtain ⟨ba, bb, rfl, rfl, hab, hba, hbb, B0, B1, g1⟩ := hcut
    have Q0 := Lib.hid q0
    have Q1 := Lib.hid q1
    clear q0 q1 c1 c2 c3 c4 hb0 hb1 hb2 hb3 hb4 i1 i2 i3 i4 z1
    go_wp2_with fail
    go_loopw [8] (fun i wr => ∃ k : Nat, k + 2 ≤ n ∧ i = .int .i64 ((k : Int) + 2) ∧ Hid (Box2 wr ba (L (rx T N D k)) (T (rx T N D k))) ∧ Hid (Box2 wr bb (L (rx T N D k + 1)) (T (rx T N D k + 1))) ∧ Hid (Gr (w.alloc (.cells #[.int .i64 N, .int .i64 D] 37)) wr ∧ Gr ((w.alloc (.cells #[.int .i64 N, .int .i64 D] 37)).alloc (.cells #[.int .i64 0, .int .i64 0] 37)) wr)) (fun i _ => n - (intOf i).toNat)
    case atStart => exact ⟨0, by omega, rfl, B0, B1, (((Gr.refl _).alloc _).trans g).trans g1, g.trans g1⟩
    case round =>
      obtain ⟨k, hk, rfl, C0, C1, HG⟩ := hrel
      obtain ⟨h1, h2'⟩ := HG.out
      have hg : Gr w wr := g0.trans h2'
      have q0 := h1.cell (Box2.new (w := w) (b := w.heap.size) (x := N) (y := D) (e := 37) rfl).1
      have q1 := h1.cell (Box2.new (w := w) (b := w.heap.size) (x := N) (y := D) (e := 37) rfl).2.1
      by_cases hlt : k + 2 < n
      · have c1 := hg.cell (Hc.out (k + 1) (by omega)).1
        have c2 := hg.cell (Hc.out (k + 1) (by omega)).2
        have c3 := hg.cell (Hc.out (k + 2) (by omega)).1
        have c4 := hg.cell (Hc.out (k + 2) (by omega)).2
        have j0 : (0 : Int) ≤ (k : Int) + 1 := by omega
        have j1 : (k : Int) + 1 < n := by omega
        have j2 : ((k : Int) + 1).toNat = k + 1 := by omega
        have j3 : (0 : Int) ≤ (k : Int) + 2 := by omega
        have j4 : (k : Int) + 2 < n := by omega
        have j5 : ((k : Int) + 2).toNat = k + 2 := by omega
        have j6 : IntKind.i64.wrap ((k : Int) + 1) = (k : Int) + 1 := IntWalk.i64_in _ (by omega)
        have tb := HB.out (k + 1) (by omega)
        have m := mul_bd (a := T (k + 1)) (b := D) (A := 100000) (B := 100000) (by omega) (by omega) (by omega) (by omega)
        have j7 : IntKind.i64.wrap (T (k + 1) * D) = T (k + 1) * D := IntWalk.i64_in _ (by omega)
        obtain ⟨m1, m2⟩ := m
        clear tb
        by_cases ht : T (k + 1) * D < N
        · have E := Lib.hid (show rx T N D (k + 1) = k + 1 by rw [rx, if_pos ht])
          obtain ⟨s0, s1, f0, f1⟩ := C0.out
          obtain ⟨s2, s3, f2, f3⟩ := C1.out
          have n1 : ba ≠ bb := hab.out
          go_wp2_with fail
          go_quiet (fail)
          go_wp2_with fail
          go_region
          all_goals go_wp2_with fail
          go_roundw
          case rel =>
            refine ⟨k + 1, by omega, by go_num, ?_, ?_, ?_⟩
            · rw [E.out]
              exact (((C0.out.gr ((Gr.refl _).drewN _)).put (x' := L (k + 1)) (y' := T (k + 1))).far (b' := bb) (fun e => n1 e.symm) (.int .i64 (L (k + 2))) (.int .i64 (T (k + 2))))
            · rw [E.out]
              exact ((C1.out.gr ((Gr.refl _).drewN _)).far (b' := ba) n1 (.int .i64 (L (k + 1))) (.int .i64 (T (k + 1)))).put (x' := L (k + 2)) (y' := T (k + 2))
            · have hba' := hba.out
              have hbb' := hbb.out
              constructor
              · repeat (first | exact h1.drewN _ | exact h1 | refine Gr.drew ?_ | refine Gr.setAt ?_ (by simp; omega) _)
              · repeat (first | exact h2'.drewN _ | exact h2' | refine Gr.drew ?_ | refine Gr.setAt ?_ (by simp; omega) _)
          case measure => simp [intOf]; omega
        · have E := Lib.hid (show rx T N D (k + 1) = rx T N D k by rw [rx, if_neg ht])
          go_wp2_with fail
          go_quiet (fail)
          go_wp2_with fail
          go_roundw
          case rel =>
            refine ⟨k + 1, by omega, by go_num, ?_, ?_, ?_⟩
            · rw [E.out]
              exact C0.out.gr ((Gr.refl _).drewN _)
            · rw [E.out]
              exact C1.out.gr ((Gr.refl _).drewN _)
            · exact ⟨h1.drewN _, h2'.drewN _⟩
          case measure => simp [intOf]; omega
      · have hk2 : k = n - 2 := by omega
        have hr2 := rx_le T N D k
        have bB := HB.out (rx T N D k) (by omega)
        have bS := HS.out (rx T N D k) (by omega)
        have bB1 := HB.out (rx T N D k + 1) (by omega)
        have hlt' : ¬ (k : Int) + 2 < n := by omega
        have FN := Lib.hid (show rN (bN L T (rx T N D (n - 2)) N D) (bD T (rx T N D (n - 2)) D) = rN ((N - T (rx T N D k) * D) * (L (rx T N D k + 1) - L (rx T N D k)) + L (rx T N D k) * ((T (rx T N D k + 1) - T (rx T N D k)) * D)) ((T (rx T N D k + 1) - T (rx T N D k)) * D) by rw [← hk2]; rfl)
        have FD := Lib.hid (show rD (bN L T (rx T N D (n - 2)) N D) (bD T (rx T N D (n - 2)) D) = rD ((N - T (rx T N D k) * D) * (L (rx T N D k + 1) - L (rx T N D k)) + L (rx T N D k) * ((T (rx T N D k + 1) - T (rx T N D k)) * D)) ((T (rx T N D k + 1) - T (rx T N D k)) * D) by rw [← hk2]; rfl)
        have K2 := Lib.hid hk2
        clear hk2 hr2
        generalize L (rx T N D k) = l0 at *
        generalize T (rx T N D k) = t0 at *
        generalize L (rx T N D k + 1) = l1 at *
        generalize T (rx T N D k + 1) = t1 at *
        obtain ⟨s0, s1, f0, f1⟩ := C0.out
        obtain ⟨s2, s3, f2, f3⟩ := C1.out
        obtain ⟨a1, a2, a3, a4⟩ := bB
        obtain ⟨a5, a6, a7, a8⟩ := bB1
        obtain ⟨a9, a10⟩ := bS
        have m1 := mul_bd (a := t0) (b := D) (A := 100000) (B := 100000) (by omega) (by omega) (by omega) (by omega)
        have m2 := mul_bd (a := N - t0 * D) (b := l1 - l0) (A := 200000000000) (B := 100000) (by omega) (by omega) (by omega) (by omega)
        have m3 := mul_bd (a := t1 - t0) (b := D) (A := 100000) (B := 100000) (by omega) (by omega) (by omega) (by omega)
        have m4 := mul_bd (a := l0) (b := t1 - t0) (A := 100000) (B := 100000) (by omega) (by omega) (by omega) (by omega)
        have m6 := mul_bd (a := l0 * (t1 - t0)) (b := D) (A := 10000000000) (B := 100000) (by omega) (by omega) (by omega) (by omega)
        have m5 : 0 < (t1 - t0) * D := Int.mul_pos (by omega) (by omega)
        obtain ⟨m11, m12⟩ := m1
        obtain ⟨m21, m22⟩ := m2
        obtain ⟨m31, m32⟩ := m3
        obtain ⟨m41, m42⟩ := m4
        obtain ⟨m61, m62⟩ := m6
        have hsz : Sz (l0 * (t1 - t0) * D + (N - t0 * D) * (l1 - l0)) := ⟨by omega, by omega⟩
        have hsd : Sz ((t1 - t0) * D) := ⟨by omega, by omega⟩
        have CM := Lib.hid (show l0 * (t1 - t0) * D + (N - t0 * D) * (l1 - l0) = (N - t0 * D) * (l1 - l0) + l0 * ((t1 - t0) * D) by rw [Int.mul_assoc l0]; omega)
        have RA := Lib.hid (fun w1 => Ratio_any (l0 * (t1 - t0) * D + (N - t0 * D) * (l1 - l0)) ((t1 - t0) * D) w1 hsz hsd m5)
        clear hsz hsd
        go_wp2_with fail
        refine (RA.out _).mono ?_
        rintro e w3 ⟨rfl, g2⟩
        rw [CM.out]
        have g3 := h2'.trans g2
        clear s0 s1 s2 s3 f0 f1 f2 f3 q0 q1
        obtain ⟨s0, f0⟩ := g3.fresh' (b := w.heap.size + 1) (j := 0) (by simp) rfl
        obtain ⟨s1, f1⟩ := g3.fresh' (b := w.heap.size + 1) (j := 1) (by simp) rfl
        have hsw : w.heap.size + 1 < w3.heap.size := by have := g3.freshSize; simp at this; omega
        have G : Gr w w3 := g0.trans g3
        generalize rN ((N - t0 * D) * (l1 - l0) + l0 * ((t1 - t0) * D)) ((t1 - t0) * D) = RN at *
        generalize rD ((N - t0 * D) * (l1 - l0) + l0 * ((t1 - t0) * D)) ((t1 - t0) * D) = RD at *
        clear RA
        go_wp2_with fail
        refine bodyPost_ret (v := .tuple #[.agg #[.int .i64 RN, .int .i64 RD], .int .i64 0]) (by simp [results, Try.results36, go_sem, s0, s1]) rfl ⟨by rw [FN.out, FD.out], ?_⟩
        exact ((G.setAt (by omega) _).setAt (by omega) _)

set_option maxRecDepth 100000 in
set_option maxHeartbeats 1000000 in
theorem refBack_any (a : Option Addr) (n c : Nat) (L T : Nat → Int) (N D : Int) (w : World) (hn : n ≤ 9223372036854775807) (hr : RdM w a n L T) :
    Calls Try.prog 36 #[.slice a n c, .agg #[.int .i64 N, .int .i64 D]] w (RetRE (okV (vK n L T) (bkR N D) (BN n L T N D)) (okV (vK n L T) (bkR N D) (BD n L T N D)) (okE (vK n L T) (bkR N D)) w) := by
  have g0 : Gr w ((w.alloc (.cells #[.int .i64 N, .int .i64 D] 37)).alloc (.cells #[.int .i64 0, .int .i64 0] 37)) := ((Gr.refl w).alloc _).alloc _
  cases hv : vK n L T with
  | false =>
    have Hv := Lib.hid hv
    clear hv
    go_enter Try.func36, Try.ntmps36
    go_wp2_with fail
    refine (refValidClock_any a n c L T _ hn (hr.gr g0)).mono ?_
    rintro e w1 ⟨rfl, g⟩
    rw [Hv.out]
    obtain ⟨s0, f0⟩ := g.fresh' (b := w.heap.size + 1) (j := 0) (by simp) rfl
    obtain ⟨s1, f1⟩ := g.fresh' (b := w.heap.size + 1) (j := 1) (by simp) rfl
    have hsz : w.heap.size + 1 < w1.heap.size := by have := g.freshSize; simp at this; omega
    have G : Gr w w1 := g0.trans g
    clear g
    go_wp2_with fail
    refine bodyPost_ret (v := .tuple #[.agg #[.int .i64 0, .int .i64 0], .int .i64 11]) (by simp [results, Try.results36, go_sem, *]) rfl ⟨rfl, ?_⟩
    exact ((G.setAt (by omega) _).setAt (by omega) _)
  | true =>
    cases hb : bkR N D with
    | true =>
      have e := back_eq (N := N) (D := D) hv (by have := bkR_true.1 hb; omega)
      have h := refBack_ok a n c L T N D w hn hr hv hb
      rw [e.1, e.2] at h
      exact h
    | false =>
      have Hv := Lib.hid hv
      clear hv
      have hnot : ¬ (1 ≤ D ∧ D ≤ 100000 ∧ -100000000000 ≤ N ∧ N ≤ 100000000000) := fun h => by rw [bkR_true.2 h] at hb; cases hb
      clear hb
      have hcase : D < 1 ∨ (1 ≤ D ∧ 100000 < D) ∨ (1 ≤ D ∧ D ≤ 100000 ∧ N < -100000000000) ∨ (1 ≤ D ∧ D ≤ 100000 ∧ -100000000000 ≤ N ∧ 100000000000 < N) := by omega
      clear hnot
      rcases hcase with h1 | ⟨h1, h2⟩ | ⟨h1, h2, h3⟩ | ⟨h1, h2, h3, h4⟩
      all_goals
        go_enter Try.func36, Try.ntmps36
        go_wp2_with fail
        refine (refValidClock_any a n c L T _ hn (hr.gr g0)).mono ?_
        rintro e w1 ⟨rfl, g⟩
        rw [Hv.out]
        have q0 := g.cell (((Gr.refl _).alloc _).cell (Box2.new (w := w) (b := w.heap.size) (x := N) (y := D) (e := 37) rfl).1)
        have q1 := g.cell (((Gr.refl _).alloc _).cell (Box2.new (w := w) (b := w.heap.size) (x := N) (y := D) (e := 37) rfl).2.1)
        obtain ⟨s0, f0⟩ := g.fresh' (b := w.heap.size + 1) (j := 0) (by simp) rfl
        obtain ⟨s1, f1⟩ := g.fresh' (b := w.heap.size + 1) (j := 1) (by simp) rfl
        have hsz : w.heap.size + 1 < w1.heap.size := by have := g.freshSize; simp at this; omega
        have G : Gr w w1 := g0.trans g
        clear g
        go_wp2_with fail
        refine bodyPost_ret (v := .tuple #[.agg #[.int .i64 0, .int .i64 0], .int .i64 2]) (by simp [results, Try.results36, go_sem, *]) rfl ⟨rfl, ?_⟩
        exact ((G.setAt (by omega) _).setAt (by omega) _)

end Go.Proofs.Ytdlbgelidcfmiaa
