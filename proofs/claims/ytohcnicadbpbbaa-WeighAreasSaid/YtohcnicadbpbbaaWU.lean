/- Contracts of chapter 7: which ratios are small, which one is less, and odds that have no greater area and are no farther apart. -/
import Derived.Test.YtohcnicadbpbbaaP10
import Derived.Test.YtohcnicadbpbbaaWF
namespace Go.Proofs.Ytohcnicadbpbbaa
open Go.RowKit Go.Firn

/-- A ratio from 0 to 1 with a denominator that is small enough. -/
def Sml (N D : Int) : Prop := 1 ≤ D ∧ D ≤ 200000000 ∧ 0 ≤ N ∧ N ≤ D
set_option maxHeartbeats 1000000 in
theorem small_yes (N D : Int) (w : World) (h : Sml N D) : Calls Try.prog 32 #[.agg #[.int .i64 N, .int .i64 D]] w (RetB true w) := by
  obtain ⟨h1, h2, h3, h4⟩ := h
  obtain ⟨W0, hW0⟩ : ∃ W0, w.alloc (.cells #[.int .i64 N, .int .i64 D] 28) = W0 := ⟨_, rfl⟩
  have G0 := Lib.hid (show Gr w W0 by rw [← hW0]; exact (Gr.refl w).alloc _)
  obtain ⟨p0, p1, _⟩ := (show Box2 W0 w.heap.size N D by rw [← hW0]; exact Box2.new rfl)
  go_enter Try.func32, Try.ntmps32
  go_wp2_with fail
  go_ret
  exact ⟨rfl, G0.out⟩
theorem sml_mul {N D N' D' : Int} (h : Sml N D) (h' : Sml N' D') : wrap64 (N * D') = N * D' ∧ IntKind.i64.wrap (N * D') = N * D' := by
  obtain ⟨h1, h2, h3, h4⟩ := h
  obtain ⟨k1, k2, k3, k4⟩ := h'
  have a := Int.mul_nonneg h3 (by omega : 0 ≤ D')
  have b := Int.mul_le_mul (a := N) (b := D') (c := 200000000) (d := 200000000) (by omega) k2 (by omega) (by omega)
  exact ⟨IntWalk.wrap64_in _ (by omega), IntWalk.i64_in _ (by omega)⟩
set_option maxHeartbeats 1000000 in
theorem less_no (N D N' D' : Int) (w : World) (h : Sml N D) (h' : Sml N' D') (hl : ¬ N * D' < N' * D) : Calls Try.prog 35 #[.agg #[.int .i64 N, .int .i64 D], .agg #[.int .i64 N', .int .i64 D']] w (RetB false w) := by
  obtain ⟨q1, q2⟩ := sml_mul h h'
  obtain ⟨q3, q4⟩ := sml_mul h' h
  obtain ⟨W0, hW0⟩ : ∃ W0, (w.alloc (.cells #[.int .i64 N, .int .i64 D] 28)).alloc (.cells #[.int .i64 N', .int .i64 D'] 28) = W0 := ⟨_, rfl⟩
  have G0 := Lib.hid (show Gr w W0 by rw [← hW0]; exact ((Gr.refl w).alloc _).alloc _)
  obtain ⟨p0, p1, _⟩ := (show Box2 W0 w.heap.size N D by rw [← hW0]; exact (Box2.new rfl).gr ((Gr.refl _).alloc _))
  obtain ⟨r0, r1, _⟩ := (show Box2 W0 (w.heap.size + 1) N' D' by rw [← hW0]; exact Box2.new (by simp))
  clear h h'
  go_enter Try.func35, Try.ntmps35
  go_wp2_with fail
  go_ret
  exact ⟨rfl, G0.out⟩
set_option maxHeartbeats 1000000 in
theorem less_yes (N D N' D' : Int) (w : World) (h : Sml N D) (h' : Sml N' D') (hl : N * D' < N' * D) : Calls Try.prog 35 #[.agg #[.int .i64 N, .int .i64 D], .agg #[.int .i64 N', .int .i64 D']] w (RetB true w) := by
  obtain ⟨q1, q2⟩ := sml_mul h h'
  obtain ⟨q3, q4⟩ := sml_mul h' h
  obtain ⟨W0, hW0⟩ : ∃ W0, (w.alloc (.cells #[.int .i64 N, .int .i64 D] 28)).alloc (.cells #[.int .i64 N', .int .i64 D'] 28) = W0 := ⟨_, rfl⟩
  have G0 := Lib.hid (show Gr w W0 by rw [← hW0]; exact ((Gr.refl w).alloc _).alloc _)
  obtain ⟨p0, p1, _⟩ := (show Box2 W0 w.heap.size N D by rw [← hW0]; exact (Box2.new rfl).gr ((Gr.refl _).alloc _))
  obtain ⟨r0, r1, _⟩ := (show Box2 W0 (w.heap.size + 1) N' D' by rw [← hW0]; exact Box2.new (by simp))
  clear h h'
  go_enter Try.func35, Try.ntmps35
  go_wp2_with fail
  go_ret
  exact ⟨rfl, G0.out⟩

theorem sml_red {n d : Int} (hd : 0 < d) (hb : d ≤ 200000000) (h0 : 0 ≤ n) (h : n ≤ d) : Sml (rN n d) (rD n d) := by
  have a := red_one hd h0 h
  have b := rD_pos (n := n) hd
  have c : rD n d ≤ d := Int.ediv_le_self _ (by omega)
  exact ⟨by omega, by omega, a.1, a.2⟩

set_option maxHeartbeats 4000000 in
set_option maxRecDepth 100000 in
theorem notMore_yes (a a2 b b2 : Option Addr) (n c d m c3 d3 : Nat) (f g u v : Nat → Int) (w : World) (hr : RdI w a n f) (hs : RdI w a2 n g) (ht : RdI w b m u) (hu : RdI w b2 m v) (hf : ∀ i, 0 ≤ f i) (hg : ∀ i, 0 ≤ g i) (kf : ∀ i, 0 ≤ u i) (kg : ∀ i, 0 ≤ v i) (hv : VO n n f g) (hv2 : VO m m u v) (hm : Mor f g n u v m) :
    Calls Try.prog 17 #[.agg #[.slice a n c, .slice a2 n d], .agg #[.slice b m c3, .slice b2 m d3]] w (RetB true w) := by
  obtain ⟨W0, hW0⟩ : ∃ W0, (w.alloc (.cells #[.slice a n c, .slice a2 n d] 24)).alloc (.cells #[.slice b m c3, .slice b2 m d3] 24) = W0 := ⟨_, rfl⟩
  have G0 := Lib.hid (show Gr w W0 by rw [← hW0]; exact ((Gr.refl w).alloc _).alloc _)
  have BA := Lib.hid (show BoxO W0 w.heap.size (.slice a n c) (.slice a2 n d) by rw [← hW0]; exact (BoxO.new rfl).gr ((Gr.refl _).alloc _))
  have BB := Lib.hid (show BoxO W0 (w.heap.size + 1) (.slice b m c3) (.slice b2 m d3) by rw [← hW0]; exact BoxO.new (by simp))
  obtain ⟨p0, p1⟩ := BA.out
  obtain ⟨s0, s1⟩ := BB.out
  have H1 := Lib.hid (fun w' (k : Gr w w') => Area_ok a a2 n c d f g w' (hr.gr k) (hs.gr k) hf hg hv)
  have H2 := Lib.hid (fun w' (k : Gr w w') => Area_ok b b2 m c3 d3 u v w' (ht.gr k) (hu.gr k) kf kg hv2)
  have H3 := Lib.hid (fun w' (k : Gr w w') => Apart_ok a a2 n c d f g w' (hr.gr k) (hs.gr k) hf hg hv)
  have H4 := Lib.hid (fun w' (k : Gr w w') => Apart_ok b b2 m c3 d3 u v w' (ht.gr k) (hu.gr k) kf kg hv2)
  obtain ⟨x1, x2, x3, x4⟩ := ar_small hv hf hg
  obtain ⟨y1, y2, y3, y4⟩ := ar_small hv2 kf kg
  obtain ⟨z1, z2, z3, z4⟩ := ap_small hv hf hg
  obtain ⟨t1, t2, t3, t4⟩ := ap_small hv2 kf kg
  have s1' := sml_red x1 x2 x3 x4
  have s2' := sml_red y1 y2 y3 y4
  have s3' := sml_red z1 z2 z3 z4
  have s4' := sml_red t1 t2 t3 t4
  have n1 := red_not x1 y1 hm.1
  have n2 := red_not z1 t1 hm.2
  change Hid (∀ w', Gr w w' → Calls _ _ _ _ (RetRE (rN (arA f g n) _) (rD (arA f g n) _) 0 w')) at H1
  change Hid (∀ w', Gr w w' → Calls _ _ _ _ (RetRE (rN (arA u v m) _) (rD (arA u v m) _) 0 w')) at H2
  clear x1 x2 x3 x4 y1 y2 y3 y4 z1 z2 z3 z4 t1 t2 t3 t4 hm hr hs ht hu hf hg kf kg hv hv2
  generalize rN (arA f g n) (2 * sm f n * sm g n) = P1 at *
  generalize rD (arA f g n) (2 * sm f n * sm g n) = Q1 at *
  generalize rN (arA u v m) (2 * sm u m * sm v m) = P2 at *
  generalize rD (arA u v m) (2 * sm u m * sm v m) = Q2 at *
  generalize rN (apP f g n) (sm f n * sm g n) = P3 at *
  generalize rD (apP f g n) (sm f n * sm g n) = Q3 at *
  generalize rN (apP u v m) (sm u m * sm v m) = P4 at *
  generalize rD (apP u v m) (sm u m * sm v m) = Q4 at *
  have S1 := Lib.hid (fun w' => small_yes P1 Q1 w' s1')
  have S2 := Lib.hid (fun w' => small_yes P2 Q2 w' s2')
  have S3 := Lib.hid (fun w' => small_yes P3 Q3 w' s3')
  have S4 := Lib.hid (fun w' => small_yes P4 Q4 w' s4')
  have L1 := Lib.hid (fun w' => less_no P2 Q2 P1 Q1 w' s2' s1' n1)
  have L2 := Lib.hid (fun w' => less_no P4 Q4 P3 Q3 w' s4' s3' n2)
  clear s1' s2' s3' s4' n1 n2
  go_enter Try.func17, Try.ntmps17
  go_wp2_with (first
    | (go_at_call 20; (with_reducible refine (H1.out _ G0.out).mono ?_); rintro e v1 ⟨rfl, g1⟩; have gg := g1.alloc (.cells #[.int .i64 P1, .int .i64 Q1] 28); obtain ⟨W1, hW1⟩ : ∃ W1, v1.alloc (.cells #[.int .i64 P1, .int .i64 Q1] 28) = W1 := ⟨_, rfl⟩; rw [hW1] at gg; have G1 := Lib.hid (G0.out.trans gg); have BA := Lib.hid (BA.out.gr gg); have BB := Lib.hid (BB.out.gr gg); have B1 := Lib.hid (show Box2 W1 v1.heap.size P1 Q1 by rw [← hW1]; exact Box2.new rfl); clear p0 p1 s0 s1; obtain ⟨p0, p1⟩ := BA.out; obtain ⟨s0, s1⟩ := BB.out; clear g1 gg)
    | (go_at_call 20; (with_reducible refine (H2.out _ G1.out).mono ?_); rintro e v2 ⟨rfl, g1⟩; have gg := g1.alloc (.cells #[.int .i64 P2, .int .i64 Q2] 28); obtain ⟨W2, hW2⟩ : ∃ W2, v2.alloc (.cells #[.int .i64 P2, .int .i64 Q2] 28) = W2 := ⟨_, rfl⟩; rw [hW2] at gg; have G2 := Lib.hid (G1.out.trans gg); have BA := Lib.hid (BA.out.gr gg); have BB := Lib.hid (BB.out.gr gg); have B1 := Lib.hid (B1.out.gr gg); have B2 := Lib.hid (show Box2 W2 v2.heap.size P2 Q2 by rw [← hW2]; exact Box2.new rfl); clear p0 p1 s0 s1; obtain ⟨p0, p1⟩ := BA.out; obtain ⟨s0, s1⟩ := BB.out; clear g1 gg)
    | (go_at_call 24; (with_reducible refine (H3.out _ G2.out).mono ?_); rintro e v3 ⟨rfl, g1⟩; have gg := g1.alloc (.cells #[.int .i64 P3, .int .i64 Q3] 28); obtain ⟨W3, hW3⟩ : ∃ W3, v3.alloc (.cells #[.int .i64 P3, .int .i64 Q3] 28) = W3 := ⟨_, rfl⟩; rw [hW3] at gg; have G3 := Lib.hid (G2.out.trans gg); have BA := Lib.hid (BA.out.gr gg); have BB := Lib.hid (BB.out.gr gg); have B1 := Lib.hid (B1.out.gr gg); have B2 := Lib.hid (B2.out.gr gg); have B3 := Lib.hid (show Box2 W3 v3.heap.size P3 Q3 by rw [← hW3]; exact Box2.new rfl); clear p0 p1 s0 s1; obtain ⟨p0, p1⟩ := BA.out; obtain ⟨s0, s1⟩ := BB.out; clear g1 gg)
    | (go_at_call 24; (with_reducible refine (H4.out _ G3.out).mono ?_); rintro e v4 ⟨rfl, g1⟩; have gg := g1.alloc (.cells #[.int .i64 P4, .int .i64 Q4] 28); obtain ⟨W4, hW4⟩ : ∃ W4, v4.alloc (.cells #[.int .i64 P4, .int .i64 Q4] 28) = W4 := ⟨_, rfl⟩; rw [hW4] at gg; have G4 := Lib.hid (G3.out.trans gg); have BA := Lib.hid (BA.out.gr gg); have BB := Lib.hid (BB.out.gr gg); have B1 := Lib.hid (B1.out.gr gg); have B2 := Lib.hid (B2.out.gr gg); have B3 := Lib.hid (B3.out.gr gg); have B4 := Lib.hid (show Box2 W4 v4.heap.size P4 Q4 by rw [← hW4]; exact Box2.new rfl); clear p0 p1 s0 s1; obtain ⟨p0, p1⟩ := BA.out; obtain ⟨s0, s1⟩ := BB.out; obtain ⟨a0, a1, _⟩ := B1.out; obtain ⟨b0, b1, _⟩ := B2.out; obtain ⟨c0, c1, _⟩ := B3.out; obtain ⟨d0, d1, _⟩ := B4.out; clear g1 gg)
    | (go_at_call 32; (with_reducible refine (S1.out _).mono ?_); rintro e v5 ⟨rfl, g1⟩; have G5 := Lib.hid (G4.out.trans g1); have B1 := Lib.hid (B1.out.gr g1); have B2 := Lib.hid (B2.out.gr g1); have B3 := Lib.hid (B3.out.gr g1); have B4 := Lib.hid (B4.out.gr g1); (try clear a0 a1 b0 b1 c0 c1 d0 d1); obtain ⟨a0, a1, _⟩ := B1.out; obtain ⟨b0, b1, _⟩ := B2.out; obtain ⟨c0, c1, _⟩ := B3.out; obtain ⟨d0, d1, _⟩ := B4.out; clear g1)
    | (go_at_call 32; (with_reducible refine (S2.out _).mono ?_); rintro e v6 ⟨rfl, g1⟩; have G6 := Lib.hid (G5.out.trans g1); have B1 := Lib.hid (B1.out.gr g1); have B2 := Lib.hid (B2.out.gr g1); have B3 := Lib.hid (B3.out.gr g1); have B4 := Lib.hid (B4.out.gr g1); (try clear a0 a1 b0 b1 c0 c1 d0 d1); obtain ⟨a0, a1, _⟩ := B1.out; obtain ⟨b0, b1, _⟩ := B2.out; obtain ⟨c0, c1, _⟩ := B3.out; obtain ⟨d0, d1, _⟩ := B4.out; clear g1)
    | (go_at_call 32; (with_reducible refine (S3.out _).mono ?_); rintro e v7 ⟨rfl, g1⟩; have G7 := Lib.hid (G6.out.trans g1); have B1 := Lib.hid (B1.out.gr g1); have B2 := Lib.hid (B2.out.gr g1); have B3 := Lib.hid (B3.out.gr g1); have B4 := Lib.hid (B4.out.gr g1); (try clear a0 a1 b0 b1 c0 c1 d0 d1); obtain ⟨a0, a1, _⟩ := B1.out; obtain ⟨b0, b1, _⟩ := B2.out; obtain ⟨c0, c1, _⟩ := B3.out; obtain ⟨d0, d1, _⟩ := B4.out; clear g1)
    | (go_at_call 32; (with_reducible refine (S4.out _).mono ?_); rintro e v8 ⟨rfl, g1⟩; have G8 := Lib.hid (G7.out.trans g1); have B1 := Lib.hid (B1.out.gr g1); have B2 := Lib.hid (B2.out.gr g1); have B3 := Lib.hid (B3.out.gr g1); have B4 := Lib.hid (B4.out.gr g1); (try clear a0 a1 b0 b1 c0 c1 d0 d1); obtain ⟨a0, a1, _⟩ := B1.out; obtain ⟨b0, b1, _⟩ := B2.out; obtain ⟨c0, c1, _⟩ := B3.out; obtain ⟨d0, d1, _⟩ := B4.out; clear g1)
    | (go_at_call 35; (with_reducible refine (L1.out _).mono ?_); rintro e v9 ⟨rfl, g1⟩; have G9 := Lib.hid (G8.out.trans g1); have B1 := Lib.hid (B1.out.gr g1); have B2 := Lib.hid (B2.out.gr g1); have B3 := Lib.hid (B3.out.gr g1); have B4 := Lib.hid (B4.out.gr g1); (try clear a0 a1 b0 b1 c0 c1 d0 d1); obtain ⟨a0, a1, _⟩ := B1.out; obtain ⟨b0, b1, _⟩ := B2.out; obtain ⟨c0, c1, _⟩ := B3.out; obtain ⟨d0, d1, _⟩ := B4.out; clear g1)
    | (go_at_call 35; (with_reducible refine (L2.out _).mono ?_); rintro e v10 ⟨rfl, g1⟩; have G10 := Lib.hid (G9.out.trans g1); have B1 := Lib.hid (B1.out.gr g1); have B2 := Lib.hid (B2.out.gr g1); have B3 := Lib.hid (B3.out.gr g1); have B4 := Lib.hid (B4.out.gr g1); (try clear a0 a1 b0 b1 c0 c1 d0 d1); obtain ⟨a0, a1, _⟩ := B1.out; obtain ⟨b0, b1, _⟩ := B2.out; obtain ⟨c0, c1, _⟩ := B3.out; obtain ⟨d0, d1, _⟩ := B4.out; clear g1))
  go_ret
  exact ⟨rfl, G10.out⟩

end Go.Proofs.Ytohcnicadbpbbaa
