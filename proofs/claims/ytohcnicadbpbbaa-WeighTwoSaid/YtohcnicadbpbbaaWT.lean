/- Contracts of chapter 7: the odds of two observations. -/
import Derived.Test.YtohcnicadbpbbaaWN
import Derived.Test.YtohcnicadbpbbaaWP
namespace Go.Proofs.Ytohcnicadbpbbaa
open Go.RowKit Go.Firn

theorem vO_long {N : Nat} (F G : Nat → Int) (h : 10 < N) : vO N N F G = false := by
  cases e : vO N N F G with
  | false => rfl
  | true =>
    have := (vO_iff.1 e).noise.few
    omega
theorem _root_.Go.Firn.Box2v.far {w : World} {b b' : Nat} {s t : Value} (h : Box2v w b s t) (hne : b' ≠ b) (u v : Value) : Box2v ((w.setCell ⟨b', 0, none⟩ u).setCell ⟨b', 1, none⟩ v) b s t :=
  ⟨cell_far (cell_far h.1 hne _) hne _, cell_far (cell_far h.2.1 hne _) hne _, by simpa using h.2.2.1, by simpa using h.2.2.2⟩

set_option maxHeartbeats 8000000 in
set_option maxRecDepth 100000 in
theorem Both_no1 (a a2 b b2 : Option Addr) (n c n2 d m c3 m2 d3 : Nat) (f g u v : Nat → Int) (w : World) (hn : n ≤ 1000) (hn2 : n2 ≤ 1000) (_hm : m ≤ 1000) (_hm2 : m2 ≤ 1000) (hr : RdI w a n f) (hs : RdI w a2 n2 g) (_ht : RdI w b m u) (_hu : RdI w b2 m2 v) (hv : vO n n2 f g = false) :
    Calls Try.prog 16 #[.agg #[.slice a n c, .slice a2 n2 d], .agg #[.slice b m c3, .slice b2 m2 d3]] w (RetD 0 0 (fun _ => 0) (fun _ => 0) 70 w) := by
  obtain ⟨W0, hW0⟩ : ∃ W0, ((w.alloc (.cells #[.slice a n c, .slice a2 n2 d] 24)).alloc (.cells #[.slice b m c3, .slice b2 m2 d3] 24)).alloc (.cells #[.slice none 0 0, .slice none 0 0] 24) = W0 := ⟨_, rfl⟩
  have G0 := Lib.hid (show Gr w W0 by rw [← hW0]; exact (((Gr.refl w).alloc _).alloc _).alloc _)
  have BA := Lib.hid (show BoxO W0 w.heap.size (.slice a n c) (.slice a2 n2 d) by rw [← hW0]; exact (BoxO.new rfl).gr (((Gr.refl _).alloc _).alloc _))
  have BB := Lib.hid (show BoxO W0 (w.heap.size + 1) (.slice b m c3) (.slice b2 m2 d3) by rw [← hW0]; exact (BoxO.new (by simp)).gr ((Gr.refl _).alloc _))
  have BR := Lib.hid (show Box2v W0 (w.heap.size + 2) (.slice none 0 0) (.slice none 0 0) by rw [← hW0]; exact Box2v.new (by simp))
  obtain ⟨p0, p1⟩ := BA.out
  obtain ⟨s0, s1⟩ := BB.out
  have C1 := Lib.hid (fun w' (k : Gr w w') => Valid_any a a2 n c n2 d f g w' hn hn2 (hr.gr k) (hs.gr k))
  rw [hv] at C1
  clear hr hs _ht _hu hv
  go_enter Try.func16, Try.ntmps16
  go_wp2_with ((go_at_call 14; (with_reducible refine (C1.out _ G0.out).mono ?_); rintro e W1 ⟨rfl, g1⟩; have G1 := Lib.hid (G0.out.trans g1); have BA := Lib.hid (BA.out.gr g1); have BB := Lib.hid (BB.out.gr g1); have BR := Lib.hid (BR.out.gr g1); clear p0 p1 s0 s1; obtain ⟨p0, p1⟩ := BA.out; obtain ⟨s0, s1⟩ := BB.out; clear g1; obtain ⟨k0, k1, k2, k3⟩ := BR.out))
  obtain ⟨z0, z1, _⟩ := BR.out.put (.slice none 0 0) (.slice none 0 0)
  refine bodyPost_ret (v := .tuple #[.agg #[.slice none 0 0, .slice none 0 0], .int .i64 70]) (by simp [results, Try.results16, go_sem, z0, z1]) rfl (RetD.no 70 ?_)
  repeat (first | exact G1.out | refine Gr.setCell ?_ (by simp; omega) _ | refine Gr.setCell ?_ (by simp) _ | refine Gr.alloc ?_ _ | refine Gr.drewN ?_ _ | refine Gr.drew ?_)

set_option maxHeartbeats 8000000 in
set_option maxRecDepth 100000 in
theorem Both_no2 (a a2 b b2 : Option Addr) (n c n2 d m c3 m2 d3 : Nat) (f g u v : Nat → Int) (w : World) (hn : n ≤ 1000) (hn2 : n2 ≤ 1000) (hm : m ≤ 1000) (hm2 : m2 ≤ 1000) (hr : RdI w a n f) (hs : RdI w a2 n2 g) (ht : RdI w b m u) (hu : RdI w b2 m2 v) (hv : vO n n2 f g = true) (hv2 : vO m m2 u v = false) :
    Calls Try.prog 16 #[.agg #[.slice a n c, .slice a2 n2 d], .agg #[.slice b m c3, .slice b2 m2 d3]] w (RetD 0 0 (fun _ => 0) (fun _ => 0) 70 w) := by
  obtain ⟨W0, hW0⟩ : ∃ W0, ((w.alloc (.cells #[.slice a n c, .slice a2 n2 d] 24)).alloc (.cells #[.slice b m c3, .slice b2 m2 d3] 24)).alloc (.cells #[.slice none 0 0, .slice none 0 0] 24) = W0 := ⟨_, rfl⟩
  have G0 := Lib.hid (show Gr w W0 by rw [← hW0]; exact (((Gr.refl w).alloc _).alloc _).alloc _)
  have BA := Lib.hid (show BoxO W0 w.heap.size (.slice a n c) (.slice a2 n2 d) by rw [← hW0]; exact (BoxO.new rfl).gr (((Gr.refl _).alloc _).alloc _))
  have BB := Lib.hid (show BoxO W0 (w.heap.size + 1) (.slice b m c3) (.slice b2 m2 d3) by rw [← hW0]; exact (BoxO.new (by simp)).gr ((Gr.refl _).alloc _))
  have BR := Lib.hid (show Box2v W0 (w.heap.size + 2) (.slice none 0 0) (.slice none 0 0) by rw [← hW0]; exact Box2v.new (by simp))
  obtain ⟨p0, p1⟩ := BA.out
  obtain ⟨s0, s1⟩ := BB.out
  have C1 := Lib.hid (fun w' (k : Gr w w') => Valid_any a a2 n c n2 d f g w' hn hn2 (hr.gr k) (hs.gr k))
  rw [hv] at C1
  have C2 := Lib.hid (fun w' (k : Gr w w') => Valid_any b b2 m c3 m2 d3 u v w' hm hm2 (ht.gr k) (hu.gr k))
  rw [hv2] at C2
  clear hr hs ht hu hv hv2
  go_enter Try.func16, Try.ntmps16
  go_wp2_with (first
    | (go_at_call 14; (with_reducible refine (C1.out _ G0.out).mono ?_); rintro e W1 ⟨rfl, g1⟩; have G1 := Lib.hid (G0.out.trans g1); have BA := Lib.hid (BA.out.gr g1); have BB := Lib.hid (BB.out.gr g1); have BR := Lib.hid (BR.out.gr g1); clear p0 p1 s0 s1; obtain ⟨p0, p1⟩ := BA.out; obtain ⟨s0, s1⟩ := BB.out; clear g1)
    | (go_at_call 14; (with_reducible refine (C2.out _ G1.out).mono ?_); rintro e W2 ⟨rfl, g2⟩; have G2 := Lib.hid (G1.out.trans g2); have BA := Lib.hid (BA.out.gr g2); have BB := Lib.hid (BB.out.gr g2); have BR := Lib.hid (BR.out.gr g2); clear p0 p1 s0 s1; obtain ⟨p0, p1⟩ := BA.out; obtain ⟨s0, s1⟩ := BB.out; clear g2; obtain ⟨k0, k1, k2, k3⟩ := BR.out))
  obtain ⟨z0, z1, _⟩ := BR.out.put (.slice none 0 0) (.slice none 0 0)
  refine bodyPost_ret (v := .tuple #[.agg #[.slice none 0 0, .slice none 0 0], .int .i64 70]) (by simp [results, Try.results16, go_sem, z0, z1]) rfl (RetD.no 70 ?_)
  repeat (first | exact G2.out | refine Gr.setCell ?_ (by simp; omega) _ | refine Gr.setCell ?_ (by simp) _ | refine Gr.alloc ?_ _ | refine Gr.drewN ?_ _ | refine Gr.drew ?_)

set_option maxHeartbeats 8000000 in
set_option maxRecDepth 100000 in
theorem Both_fit (a a2 b b2 : Option Addr) (n c d m c3 d3 : Nat) (f g u v : Nat → Int) (w : World) (hr : RdI w a n f) (hs : RdI w a2 n g) (ht : RdI w b m u) (hu : RdI w b2 m v) (hv : VO n n f g) (hv2 : VO m m u v) (hx : vO (n * m) (n * m) (pdQ f u n m) (pdQ g v n m) = true) :
    Calls Try.prog 16 #[.agg #[.slice a n c, .slice a2 n d], .agg #[.slice b m c3, .slice b2 m d3]] w (RetD (n * m) (n * m) (pdQ f u n m) (pdQ g v n m) 0 w) := by
  have n10 := hv.noise.few
  have m10 := hv2.noise.few
  have n1 := hv.noise.one
  have m1 := hv2.noise.one
  obtain ⟨W0, hW0⟩ : ∃ W0, ((w.alloc (.cells #[.slice a n c, .slice a2 n d] 24)).alloc (.cells #[.slice b m c3, .slice b2 m d3] 24)).alloc (.cells #[.slice none 0 0, .slice none 0 0] 24) = W0 := ⟨_, rfl⟩
  have G0 := Lib.hid (show Gr w W0 by rw [← hW0]; exact (((Gr.refl w).alloc _).alloc _).alloc _)
  have BA := Lib.hid (show BoxO W0 w.heap.size (.slice a n c) (.slice a2 n d) by rw [← hW0]; exact (BoxO.new rfl).gr (((Gr.refl _).alloc _).alloc _))
  have BB := Lib.hid (show BoxO W0 (w.heap.size + 1) (.slice b m c3) (.slice b2 m d3) by rw [← hW0]; exact (BoxO.new (by simp)).gr ((Gr.refl _).alloc _))
  have BR := Lib.hid (show Box2v W0 (w.heap.size + 2) (.slice none 0 0) (.slice none 0 0) by rw [← hW0]; exact Box2v.new (by simp))
  obtain ⟨p0, p1⟩ := BA.out
  obtain ⟨s0, s1⟩ := BB.out
  have C1 := Lib.hid (fun w' (k : Gr w w') => Valid_any a a2 n c n d f g w' (by omega) (by omega) (hr.gr k) (hs.gr k))
  rw [vO_iff.2 hv] at C1
  have C2 := Lib.hid (fun w' (k : Gr w w') => Valid_any b b2 m c3 m d3 u v w' (by omega) (by omega) (ht.gr k) (hu.gr k))
  rw [vO_iff.2 hv2] at C2
  have CP1 := Lib.hid (fun w' (k : Gr w w') => products_any a b n c m c3 f u w' hv.noise hv2.noise (hr.gr k) (ht.gr k))
  have CP2 := Lib.hid (fun w' (k : Gr w w') => products_any a2 b2 n d m d3 g v w' hv.signal hv2.signal (hs.gr k) (hu.gr k))
  have N100 : n * m ≤ 100 := Nat.mul_le_mul n10 m10
  have q1 : wrap64 ((n : Int) * (m : Int)) = ((n * m : Nat) : Int) := by rw [← Int.natCast_mul]; exact IntWalk.wrap64_in _ (by omega)
  have q2 : IntKind.i64.wrap ((n : Int) * (m : Int)) = ((n * m : Nat) : Int) := by rw [← Int.natCast_mul]; exact IntWalk.i64_in _ (by omega)
  clear hr hs ht hu hv hv2
  generalize pdQ f u n m = F at *
  generalize pdQ g v n m = G at *
  generalize n * m = N at *
  clear q1 q2
  go_enter Try.func16, Try.ntmps16
  go_wp2_with (first
    | (go_at_call 14; (with_reducible refine (C1.out _ G0.out).mono ?_); rintro e W1 ⟨rfl, g1⟩; have G1 := Lib.hid (G0.out.trans g1); have BA := Lib.hid (BA.out.gr g1); have BB := Lib.hid (BB.out.gr g1); have BR := Lib.hid (BR.out.gr g1); clear p0 p1 s0 s1; obtain ⟨p0, p1⟩ := BA.out; obtain ⟨s0, s1⟩ := BB.out; clear g1)
    | (go_at_call 14; (with_reducible refine (C2.out _ G1.out).mono ?_); rintro e W2 ⟨rfl, g2⟩; have G2 := Lib.hid (G1.out.trans g2); have BA := Lib.hid (BA.out.gr g2); have BB := Lib.hid (BB.out.gr g2); have BR := Lib.hid (BR.out.gr g2); clear p0 p1 s0 s1; obtain ⟨p0, p1⟩ := BA.out; obtain ⟨s0, s1⟩ := BB.out; clear g2))
  refine (wpIn_wide (n := 3)).1 ?_
  refine wpIn_region_held (fun w' => w'.cell? ⟨w.heap.size, 0, none⟩ = some (.slice a n c) ∧ w'.cell? ⟨w.heap.size, 1, none⟩ = some (.slice a2 n d) ∧ w'.cell? ⟨w.heap.size + 1, 0, none⟩ = some (.slice b m c3) ∧ w'.cell? ⟨w.heap.size + 1, 1, none⟩ = some (.slice b2 m d3) ∧ Gr w w') 13 (by kernel_rfl) rfl rfl ?_
  have hS : W2.drew.cell? ⟨w.heap.size, 0, none⟩ = some (.slice a n c) ∧ W2.drew.cell? ⟨w.heap.size, 1, none⟩ = some (.slice a2 n d) ∧ W2.drew.cell? ⟨w.heap.size + 1, 0, none⟩ = some (.slice b m c3) ∧ W2.drew.cell? ⟨w.heap.size + 1, 1, none⟩ = some (.slice b2 m d3) ∧ Gr w W2.drew := ⟨p0, p1, s0, s1, G2.out.drew⟩
  have BR := Lib.hid (BR.out.gr ((Gr.refl _).drew))
  obtain ⟨WD, hWD⟩ : ∃ WD, W2.drew = WD := ⟨_, rfl⟩
  rw [hWD] at hS BR ⊢
  clear hWD
  iterate 8 (first
    | (refine wpAnyHIn_take 0 (v := ?_) rfl (by kernel_rfl) (by kernel_rfl) (by kernel_rfl) (by decide +kernel) (fun _ _ _ h => h) (fun _ _ _ => trivial) (by rfl) (fun w' hSw => ?_) hS ?_; rotate_left 1; (focus (have z0 := hSw.1; have z1 := hSw.2.1; have z2 := hSw.2.2.1; have z3 := hSw.2.2.2.1; go_simp; try with_reducible rfl)); simp only [Act.put, List.setIfInBounds_toArray, List.set_cons_zero, List.set_cons_succ])
    | (refine wpAnyHIn_take 1 (v := ?_) rfl (by kernel_rfl) (by kernel_rfl) (by kernel_rfl) (by decide +kernel) (fun _ _ _ h => h) (fun _ _ _ => trivial) (by rfl) (fun w' hSw => ?_) hS ?_; rotate_left 1; (focus (have z0 := hSw.1; have z1 := hSw.2.1; have z2 := hSw.2.2.1; have z3 := hSw.2.2.2.1; go_simp; try with_reducible rfl)); simp only [Act.put, List.setIfInBounds_toArray, List.set_cons_zero, List.set_cons_succ])
    | (refine wpAnyHIn_take 2 (v := ?_) rfl (by kernel_rfl) (by kernel_rfl) (by kernel_rfl) (by decide +kernel) (fun _ _ _ h => h) (fun _ _ _ => trivial) (by rfl) (fun w' hSw => ?_) hS ?_; rotate_left 1; (focus (have z0 := hSw.1; have z1 := hSw.2.1; have z2 := hSw.2.2.1; have z3 := hSw.2.2.2.1; go_simp; try with_reducible rfl)); simp only [Act.put, List.setIfInBounds_toArray, List.set_cons_zero, List.set_cons_succ])
    | (refine wpAnyHIn_take 3 (v := ?_) rfl (by kernel_rfl) (by kernel_rfl) (by kernel_rfl) (by decide +kernel) (fun _ _ _ h => h) (fun _ _ _ => trivial) (by rfl) (fun w' hSw => ?_) hS ?_; rotate_left 1; (focus (have z0 := hSw.1; have z1 := hSw.2.1; have z2 := hSw.2.2.1; have z3 := hSw.2.2.2.1; go_simp; try with_reducible rfl)); simp only [Act.put, List.setIfInBounds_toArray, List.set_cons_zero, List.set_cons_succ])
    | (refine wpAnyHIn_take 5 (v := ?_) rfl (by kernel_rfl) (by kernel_rfl) (by kernel_rfl) (by decide +kernel) (fun _ _ _ h => h) (fun _ _ _ => trivial) (by rfl) (fun w' hSw => ?_) hS ?_; rotate_left 1; (focus (have z0 := hSw.1; have z1 := hSw.2.1; have z2 := hSw.2.2.1; have z3 := hSw.2.2.2.1; go_simp; try with_reducible rfl)); simp only [Act.put, List.setIfInBounds_toArray, List.set_cons_zero, List.set_cons_succ])
    | (refine wpAnyHIn_take 6 (v := ?_) rfl (by kernel_rfl) (by kernel_rfl) (by kernel_rfl) (by decide +kernel) (fun _ _ _ h => h) (fun _ _ _ => trivial) (by rfl) (fun w' hSw => ?_) hS ?_; rotate_left 1; (focus (have z0 := hSw.1; have z1 := hSw.2.1; have z2 := hSw.2.2.1; have z3 := hSw.2.2.2.1; go_simp; try with_reducible rfl)); simp only [Act.put, List.setIfInBounds_toArray, List.set_cons_zero, List.set_cons_succ])
    | (refine wpAnyHIn_take 7 (v := ?_) rfl (by kernel_rfl) (by kernel_rfl) (by kernel_rfl) (by decide +kernel) (fun _ _ _ h => h) (fun _ _ _ => trivial) (by rfl) (fun w' hSw => ?_) hS ?_; rotate_left 1; (focus (have z0 := hSw.1; have z1 := hSw.2.1; have z2 := hSw.2.2.1; have z3 := hSw.2.2.2.1; go_simp; try with_reducible rfl)); simp only [Act.put, List.setIfInBounds_toArray, List.set_cons_zero, List.set_cons_succ])
    | (refine wpAnyHIn_take 8 (v := ?_) rfl (by kernel_rfl) (by kernel_rfl) (by kernel_rfl) (by decide +kernel) (fun _ _ _ h => h) (fun _ _ _ => trivial) (by rfl) (fun w' hSw => ?_) hS ?_; rotate_left 1; (focus (have z0 := hSw.1; have z1 := hSw.2.1; have z2 := hSw.2.2.1; have z3 := hSw.2.2.2.1; go_simp; try with_reducible rfl)); simp only [Act.put, List.setIfInBounds_toArray, List.set_cons_zero, List.set_cons_succ]))
  refine wpAnyHIn_ready [4, 11] (by kernel_rfl) (by simp) ?_
  refine AllHIn.cons rfl (by rfl) (fun K hK => ?_) (AllHIn.cons rfl (by rfl) (fun K hK => ?_) (AllHIn.nil))
  · go_simp
    refine ⟨trivial, ?_⟩
    refine (callsIn_wide.2 (CP1.out _ hS.2.2.2.2)).mono ?_
    rintro e wX ⟨aX, kX, rfl, _, _, rdX, gX⟩
    have hS : wX.cell? ⟨w.heap.size, 0, none⟩ = some (.slice a n c) ∧ wX.cell? ⟨w.heap.size, 1, none⟩ = some (.slice a2 n d) ∧ wX.cell? ⟨w.heap.size + 1, 0, none⟩ = some (.slice b m c3) ∧ wX.cell? ⟨w.heap.size + 1, 1, none⟩ = some (.slice b2 m d3) ∧ Gr w wX := ⟨gX.cell hS.1, gX.cell hS.2.1, gX.cell hS.2.2.1, gX.cell hS.2.2.2.1, hS.2.2.2.2.trans gX⟩
    have BR := Lib.hid (BR.out.gr gX)
    have RX := Lib.hid rdX
    refine hK.out _ _ hS ?_
    clear hK K gX rdX
    refine wpAnyHIn_ready [9, 11] (by kernel_rfl) (by simp) ?_
    refine AllHIn.cons rfl (by rfl) (fun K hK => ?_) (AllHIn.cons rfl (by rfl) (fun K hK => ?_) (AllHIn.nil))
    · go_simp
      refine ⟨trivial, ?_⟩
      refine (callsIn_wide.2 (CP2.out _ hS.2.2.2.2)).mono ?_
      rintro e wY ⟨aY, kY, rfl, _, _, rdY, gX⟩
      have hS : wY.cell? ⟨w.heap.size, 0, none⟩ = some (.slice a n c) ∧ wY.cell? ⟨w.heap.size, 1, none⟩ = some (.slice a2 n d) ∧ wY.cell? ⟨w.heap.size + 1, 0, none⟩ = some (.slice b m c3) ∧ wY.cell? ⟨w.heap.size + 1, 1, none⟩ = some (.slice b2 m d3) ∧ Gr w wY := ⟨gX.cell hS.1, gX.cell hS.2.1, gX.cell hS.2.2.1, gX.cell hS.2.2.2.1, hS.2.2.2.2.trans gX⟩
      have BR := Lib.hid (BR.out.gr gX)
      have RY := Lib.hid rdY
      have RX := Lib.hid (RX.out.gr gX)
      refine hK.out _ _ hS ?_
      clear hK K gX rdY
      iterate 1 (first
        | (refine wpAnyHIn_take 10 (v := ?_) rfl (by kernel_rfl) (by kernel_rfl) (by kernel_rfl) (by decide +kernel) (fun _ _ _ h => h) (fun _ _ _ => trivial) (by rfl) (fun w' hSw => ?_) hS ?_; rotate_left 1; (focus (skip; go_simp; try with_reducible rfl)); simp only [Act.put, List.setIfInBounds_toArray, List.set_cons_zero, List.set_cons_succ]))
      refine wpAnyHIn_ready [11] (by kernel_rfl) (by simp) ?_
      refine AllHIn.cons rfl (by rfl) (fun K hK => ?_) (AllHIn.nil)
      go_simp
      have gX := (Gr.refl wY).alloc (.cells #[.slice none 0 0, .slice none 0 0] 24)
      obtain ⟨wa, hwa⟩ : ∃ wa, wY.alloc (.cells #[.slice none 0 0, .slice none 0 0] 24) = wa := ⟨_, rfl⟩
      have B6 := Lib.hid (show Box2v wa wY.heap.size (.slice none 0 0) (.slice none 0 0) by rw [← hwa]; exact Box2v.new rfl)
      have N6 : w.heap.size + 2 < wY.heap.size := World.block_lt_of_cell? wY _ BR.out.1
      rw [hwa] at gX ⊢
      have hS : wa.cell? ⟨w.heap.size, 0, none⟩ = some (.slice a n c) ∧ wa.cell? ⟨w.heap.size, 1, none⟩ = some (.slice a2 n d) ∧ wa.cell? ⟨w.heap.size + 1, 0, none⟩ = some (.slice b m c3) ∧ wa.cell? ⟨w.heap.size + 1, 1, none⟩ = some (.slice b2 m d3) ∧ Gr w wa := ⟨gX.cell hS.1, gX.cell hS.2.1, gX.cell hS.2.2.1, gX.cell hS.2.2.2.1, hS.2.2.2.2.trans gX⟩
      have BR := Lib.hid (BR.out.gr gX)
      have RX := Lib.hid (RX.out.gr gX)
      have RY := Lib.hid (RY.out.gr gX)
      refine hK.out _ _ hS ?_
      clear hK K gX hwa
      refine wpAnyHIn_ready [12] (by kernel_rfl) (by simp) ?_
      refine AllHIn.cons rfl (by rfl) (fun K hK => ?_) AllHIn.nil
      obtain ⟨k0, k1, k2, k3⟩ := B6.out
      have k5 := cell_by (k := 0) k1 (by omega) (Value.slice aX N kX)
      go_simp
      obtain ⟨WZ, hWZ⟩ : ∃ WZ, (wa.setCell ⟨wY.heap.size, 0, none⟩ (.slice aX N kX)).setCell ⟨wY.heap.size, 1, none⟩ (.slice aY N kY) = WZ := ⟨_, rfl⟩
      have hS : WZ.cell? ⟨w.heap.size, 0, none⟩ = some (.slice a n c) ∧ WZ.cell? ⟨w.heap.size, 1, none⟩ = some (.slice a2 n d) ∧ WZ.cell? ⟨w.heap.size + 1, 0, none⟩ = some (.slice b m c3) ∧ WZ.cell? ⟨w.heap.size + 1, 1, none⟩ = some (.slice b2 m d3) ∧ Gr w WZ := by rw [← hWZ]; exact ⟨cell_far (cell_far hS.1 (by omega) _) (by omega) _, cell_far (cell_far hS.2.1 (by omega) _) (by omega) _, cell_far (cell_far hS.2.2.1 (by omega) _) (by omega) _, cell_far (cell_far hS.2.2.2.1 (by omega) _) (by omega) _, (hS.2.2.2.2.setAt (by omega) _).setAt (by omega) _⟩
      have BZ := Lib.hid (show Box2v WZ (wY.heap.size) (.slice aX N kX) (.slice aY N kY) by rw [← hWZ]; exact Box2v.put B6.out _ _)
      have BR := Lib.hid (show Box2v WZ (w.heap.size + 2) (.slice none 0 0) (.slice none 0 0) by rw [← hWZ]; exact BR.out.far (by omega) _ _)
      have RX2 := Lib.hid (show RdI WZ aX N F by rw [← hWZ]; exact RX.out.put B6.out _ _)
      have RY2 := Lib.hid (show RdI WZ aY N G by rw [← hWZ]; exact RY.out.put B6.out _ _)
      simp only [hWZ]
      refine hK.out _ _ hS ?_
      clear hK K k0 k1 k2 k3 k5 hWZ
      refine wpAnyHIn_done (by kernel_rfl) ?_ _
      have C3 := Lib.hid (fun w' (k : Gr WZ w') => Valid_any aX aY N kX N kY F G w' (by omega) (by omega) (RX2.out.gr k) (RY2.out.gr k))
      rw [hx] at C3
      obtain ⟨z0, z1, _⟩ := BZ.out
      have GZ := Lib.hid hS.2.2.2.2
      clear hS
      go_wp2_with (go_at_call 14; (with_reducible refine (C3.out _ (by first | exact Gr.refl _ | exact (Gr.refl _).drew)).mono ?_); rintro e W5 ⟨rfl, g5⟩; have G5 := Lib.hid (GZ.out.trans g5); have BZ := Lib.hid (BZ.out.gr g5); have BR := Lib.hid (BR.out.gr g5); have RX2 := Lib.hid (RX2.out.gr g5); have RY2 := Lib.hid (RY2.out.gr g5); clear z0 z1; obtain ⟨z0, z1, _⟩ := BZ.out; obtain ⟨k0, k1, k2, k3⟩ := BR.out; clear g5)
      obtain ⟨y0, y1, _⟩ := BR.out.put (.slice aX N kX) (.slice aY N kY)
      refine bodyPost_ret (v := .tuple #[.agg #[.slice aX N kX, .slice aY N kY], .int .i64 0]) (by simp [results, Try.results16, go_sem, y0, y1]) rfl ⟨_, _, _, _, rfl, RX2.out.put BR.out _ _, RY2.out.put BR.out _ _, (G5.out.setAt (by omega) _).setAt (by omega) _⟩
    · go_simp
      have gX := (Gr.refl wX).alloc (.cells #[.slice none 0 0, .slice none 0 0] 24)
      obtain ⟨wa, hwa⟩ : ∃ wa, wX.alloc (.cells #[.slice none 0 0, .slice none 0 0] 24) = wa := ⟨_, rfl⟩
      have B6 := Lib.hid (show Box2v wa wX.heap.size (.slice none 0 0) (.slice none 0 0) by rw [← hwa]; exact Box2v.new rfl)
      have N6 : w.heap.size + 2 < wX.heap.size := World.block_lt_of_cell? wX _ BR.out.1
      rw [hwa] at gX ⊢
      have hS : wa.cell? ⟨w.heap.size, 0, none⟩ = some (.slice a n c) ∧ wa.cell? ⟨w.heap.size, 1, none⟩ = some (.slice a2 n d) ∧ wa.cell? ⟨w.heap.size + 1, 0, none⟩ = some (.slice b m c3) ∧ wa.cell? ⟨w.heap.size + 1, 1, none⟩ = some (.slice b2 m d3) ∧ Gr w wa := ⟨gX.cell hS.1, gX.cell hS.2.1, gX.cell hS.2.2.1, gX.cell hS.2.2.2.1, hS.2.2.2.2.trans gX⟩
      have BR := Lib.hid (BR.out.gr gX)
      have RX := Lib.hid (RX.out.gr gX)
      refine hK.out _ _ hS ?_
      clear hK K gX hwa
      refine wpAnyHIn_ready [9] (by kernel_rfl) (by simp) ?_
      refine AllHIn.cons rfl (by rfl) (fun K hK => ?_) (AllHIn.nil)
      go_simp
      refine ⟨trivial, ?_⟩
      refine (callsIn_wide.2 (CP2.out _ hS.2.2.2.2)).mono ?_
      rintro e wY ⟨aY, kY, rfl, _, _, rdY, gX⟩
      have hS : wY.cell? ⟨w.heap.size, 0, none⟩ = some (.slice a n c) ∧ wY.cell? ⟨w.heap.size, 1, none⟩ = some (.slice a2 n d) ∧ wY.cell? ⟨w.heap.size + 1, 0, none⟩ = some (.slice b m c3) ∧ wY.cell? ⟨w.heap.size + 1, 1, none⟩ = some (.slice b2 m d3) ∧ Gr w wY := ⟨gX.cell hS.1, gX.cell hS.2.1, gX.cell hS.2.2.1, gX.cell hS.2.2.2.1, hS.2.2.2.2.trans gX⟩
      have BR := Lib.hid (BR.out.gr gX)
      have RY := Lib.hid rdY
      have RX := Lib.hid (RX.out.gr gX)
      have B6 := Lib.hid (B6.out.gr gX)
      refine hK.out _ _ hS ?_
      clear hK K gX rdY
      iterate 1 (first
        | (refine wpAnyHIn_take 10 (v := ?_) rfl (by kernel_rfl) (by kernel_rfl) (by kernel_rfl) (by decide +kernel) (fun _ _ _ h => h) (fun _ _ _ => trivial) (by rfl) (fun w' hSw => ?_) hS ?_; rotate_left 1; (focus (skip; go_simp; try with_reducible rfl)); simp only [Act.put, List.setIfInBounds_toArray, List.set_cons_zero, List.set_cons_succ]))
      refine wpAnyHIn_ready [12] (by kernel_rfl) (by simp) ?_
      refine AllHIn.cons rfl (by rfl) (fun K hK => ?_) AllHIn.nil
      obtain ⟨k0, k1, k2, k3⟩ := B6.out
      have k5 := cell_by (k := 0) k1 (by omega) (Value.slice aX N kX)
      go_simp
      obtain ⟨WZ, hWZ⟩ : ∃ WZ, (wY.setCell ⟨wX.heap.size, 0, none⟩ (.slice aX N kX)).setCell ⟨wX.heap.size, 1, none⟩ (.slice aY N kY) = WZ := ⟨_, rfl⟩
      have hS : WZ.cell? ⟨w.heap.size, 0, none⟩ = some (.slice a n c) ∧ WZ.cell? ⟨w.heap.size, 1, none⟩ = some (.slice a2 n d) ∧ WZ.cell? ⟨w.heap.size + 1, 0, none⟩ = some (.slice b m c3) ∧ WZ.cell? ⟨w.heap.size + 1, 1, none⟩ = some (.slice b2 m d3) ∧ Gr w WZ := by rw [← hWZ]; exact ⟨cell_far (cell_far hS.1 (by omega) _) (by omega) _, cell_far (cell_far hS.2.1 (by omega) _) (by omega) _, cell_far (cell_far hS.2.2.1 (by omega) _) (by omega) _, cell_far (cell_far hS.2.2.2.1 (by omega) _) (by omega) _, (hS.2.2.2.2.setAt (by omega) _).setAt (by omega) _⟩
      have BZ := Lib.hid (show Box2v WZ (wX.heap.size) (.slice aX N kX) (.slice aY N kY) by rw [← hWZ]; exact Box2v.put B6.out _ _)
      have BR := Lib.hid (show Box2v WZ (w.heap.size + 2) (.slice none 0 0) (.slice none 0 0) by rw [← hWZ]; exact BR.out.far (by omega) _ _)
      have RX2 := Lib.hid (show RdI WZ aX N F by rw [← hWZ]; exact RX.out.put B6.out _ _)
      have RY2 := Lib.hid (show RdI WZ aY N G by rw [← hWZ]; exact RY.out.put B6.out _ _)
      simp only [hWZ]
      refine hK.out _ _ hS ?_
      clear hK K k0 k1 k2 k3 k5 hWZ
      refine wpAnyHIn_done (by kernel_rfl) ?_ _
      have C3 := Lib.hid (fun w' (k : Gr WZ w') => Valid_any aX aY N kX N kY F G w' (by omega) (by omega) (RX2.out.gr k) (RY2.out.gr k))
      rw [hx] at C3
      obtain ⟨z0, z1, _⟩ := BZ.out
      have GZ := Lib.hid hS.2.2.2.2
      clear hS
      go_wp2_with (go_at_call 14; (with_reducible refine (C3.out _ (by first | exact Gr.refl _ | exact (Gr.refl _).drew)).mono ?_); rintro e W5 ⟨rfl, g5⟩; have G5 := Lib.hid (GZ.out.trans g5); have BZ := Lib.hid (BZ.out.gr g5); have BR := Lib.hid (BR.out.gr g5); have RX2 := Lib.hid (RX2.out.gr g5); have RY2 := Lib.hid (RY2.out.gr g5); clear z0 z1; obtain ⟨z0, z1, _⟩ := BZ.out; obtain ⟨k0, k1, k2, k3⟩ := BR.out; clear g5)
      obtain ⟨y0, y1, _⟩ := BR.out.put (.slice aX N kX) (.slice aY N kY)
      refine bodyPost_ret (v := .tuple #[.agg #[.slice aX N kX, .slice aY N kY], .int .i64 0]) (by simp [results, Try.results16, go_sem, y0, y1]) rfl ⟨_, _, _, _, rfl, RX2.out.put BR.out _ _, RY2.out.put BR.out _ _, (G5.out.setAt (by omega) _).setAt (by omega) _⟩
  · go_simp
    have gX := (Gr.refl WD).alloc (.cells #[.slice none 0 0, .slice none 0 0] 24)
    obtain ⟨wa, hwa⟩ : ∃ wa, WD.alloc (.cells #[.slice none 0 0, .slice none 0 0] 24) = wa := ⟨_, rfl⟩
    have B6 := Lib.hid (show Box2v wa WD.heap.size (.slice none 0 0) (.slice none 0 0) by rw [← hwa]; exact Box2v.new rfl)
    have N6 : w.heap.size + 2 < WD.heap.size := World.block_lt_of_cell? WD _ BR.out.1
    rw [hwa] at gX ⊢
    have hS : wa.cell? ⟨w.heap.size, 0, none⟩ = some (.slice a n c) ∧ wa.cell? ⟨w.heap.size, 1, none⟩ = some (.slice a2 n d) ∧ wa.cell? ⟨w.heap.size + 1, 0, none⟩ = some (.slice b m c3) ∧ wa.cell? ⟨w.heap.size + 1, 1, none⟩ = some (.slice b2 m d3) ∧ Gr w wa := ⟨gX.cell hS.1, gX.cell hS.2.1, gX.cell hS.2.2.1, gX.cell hS.2.2.2.1, hS.2.2.2.2.trans gX⟩
    have BR := Lib.hid (BR.out.gr gX)
    refine hK.out _ _ hS ?_
    clear hK K gX hwa
    refine wpAnyHIn_ready [4] (by kernel_rfl) (by simp) ?_
    refine AllHIn.cons rfl (by rfl) (fun K hK => ?_) (AllHIn.nil)
    go_simp
    refine ⟨trivial, ?_⟩
    refine (callsIn_wide.2 (CP1.out _ hS.2.2.2.2)).mono ?_
    rintro e wX ⟨aX, kX, rfl, _, _, rdX, gX⟩
    have hS : wX.cell? ⟨w.heap.size, 0, none⟩ = some (.slice a n c) ∧ wX.cell? ⟨w.heap.size, 1, none⟩ = some (.slice a2 n d) ∧ wX.cell? ⟨w.heap.size + 1, 0, none⟩ = some (.slice b m c3) ∧ wX.cell? ⟨w.heap.size + 1, 1, none⟩ = some (.slice b2 m d3) ∧ Gr w wX := ⟨gX.cell hS.1, gX.cell hS.2.1, gX.cell hS.2.2.1, gX.cell hS.2.2.2.1, hS.2.2.2.2.trans gX⟩
    have BR := Lib.hid (BR.out.gr gX)
    have RX := Lib.hid rdX
    have B6 := Lib.hid (B6.out.gr gX)
    refine hK.out _ _ hS ?_
    clear hK K gX rdX
    refine wpAnyHIn_ready [9] (by kernel_rfl) (by simp) ?_
    refine AllHIn.cons rfl (by rfl) (fun K hK => ?_) (AllHIn.nil)
    go_simp
    refine ⟨trivial, ?_⟩
    refine (callsIn_wide.2 (CP2.out _ hS.2.2.2.2)).mono ?_
    rintro e wY ⟨aY, kY, rfl, _, _, rdY, gX⟩
    have hS : wY.cell? ⟨w.heap.size, 0, none⟩ = some (.slice a n c) ∧ wY.cell? ⟨w.heap.size, 1, none⟩ = some (.slice a2 n d) ∧ wY.cell? ⟨w.heap.size + 1, 0, none⟩ = some (.slice b m c3) ∧ wY.cell? ⟨w.heap.size + 1, 1, none⟩ = some (.slice b2 m d3) ∧ Gr w wY := ⟨gX.cell hS.1, gX.cell hS.2.1, gX.cell hS.2.2.1, gX.cell hS.2.2.2.1, hS.2.2.2.2.trans gX⟩
    have BR := Lib.hid (BR.out.gr gX)
    have RY := Lib.hid rdY
    have RX := Lib.hid (RX.out.gr gX)
    have B6 := Lib.hid (B6.out.gr gX)
    refine hK.out _ _ hS ?_
    clear hK K gX rdY
    iterate 1 (first
      | (refine wpAnyHIn_take 10 (v := ?_) rfl (by kernel_rfl) (by kernel_rfl) (by kernel_rfl) (by decide +kernel) (fun _ _ _ h => h) (fun _ _ _ => trivial) (by rfl) (fun w' hSw => ?_) hS ?_; rotate_left 1; (focus (skip; go_simp; try with_reducible rfl)); simp only [Act.put, List.setIfInBounds_toArray, List.set_cons_zero, List.set_cons_succ]))
    refine wpAnyHIn_ready [12] (by kernel_rfl) (by simp) ?_
    refine AllHIn.cons rfl (by rfl) (fun K hK => ?_) AllHIn.nil
    obtain ⟨k0, k1, k2, k3⟩ := B6.out
    have k5 := cell_by (k := 0) k1 (by omega) (Value.slice aX N kX)
    go_simp
    obtain ⟨WZ, hWZ⟩ : ∃ WZ, (wY.setCell ⟨WD.heap.size, 0, none⟩ (.slice aX N kX)).setCell ⟨WD.heap.size, 1, none⟩ (.slice aY N kY) = WZ := ⟨_, rfl⟩
    have hS : WZ.cell? ⟨w.heap.size, 0, none⟩ = some (.slice a n c) ∧ WZ.cell? ⟨w.heap.size, 1, none⟩ = some (.slice a2 n d) ∧ WZ.cell? ⟨w.heap.size + 1, 0, none⟩ = some (.slice b m c3) ∧ WZ.cell? ⟨w.heap.size + 1, 1, none⟩ = some (.slice b2 m d3) ∧ Gr w WZ := by rw [← hWZ]; exact ⟨cell_far (cell_far hS.1 (by omega) _) (by omega) _, cell_far (cell_far hS.2.1 (by omega) _) (by omega) _, cell_far (cell_far hS.2.2.1 (by omega) _) (by omega) _, cell_far (cell_far hS.2.2.2.1 (by omega) _) (by omega) _, (hS.2.2.2.2.setAt (by omega) _).setAt (by omega) _⟩
    have BZ := Lib.hid (show Box2v WZ (WD.heap.size) (.slice aX N kX) (.slice aY N kY) by rw [← hWZ]; exact Box2v.put B6.out _ _)
    have BR := Lib.hid (show Box2v WZ (w.heap.size + 2) (.slice none 0 0) (.slice none 0 0) by rw [← hWZ]; exact BR.out.far (by omega) _ _)
    have RX2 := Lib.hid (show RdI WZ aX N F by rw [← hWZ]; exact RX.out.put B6.out _ _)
    have RY2 := Lib.hid (show RdI WZ aY N G by rw [← hWZ]; exact RY.out.put B6.out _ _)
    simp only [hWZ]
    refine hK.out _ _ hS ?_
    clear hK K k0 k1 k2 k3 k5 hWZ
    refine wpAnyHIn_done (by kernel_rfl) ?_ _
    have C3 := Lib.hid (fun w' (k : Gr WZ w') => Valid_any aX aY N kX N kY F G w' (by omega) (by omega) (RX2.out.gr k) (RY2.out.gr k))
    rw [hx] at C3
    obtain ⟨z0, z1, _⟩ := BZ.out
    have GZ := Lib.hid hS.2.2.2.2
    clear hS
    go_wp2_with (go_at_call 14; (with_reducible refine (C3.out _ (by first | exact Gr.refl _ | exact (Gr.refl _).drew)).mono ?_); rintro e W5 ⟨rfl, g5⟩; have G5 := Lib.hid (GZ.out.trans g5); have BZ := Lib.hid (BZ.out.gr g5); have BR := Lib.hid (BR.out.gr g5); have RX2 := Lib.hid (RX2.out.gr g5); have RY2 := Lib.hid (RY2.out.gr g5); clear z0 z1; obtain ⟨z0, z1, _⟩ := BZ.out; obtain ⟨k0, k1, k2, k3⟩ := BR.out; clear g5)
    obtain ⟨y0, y1, _⟩ := BR.out.put (.slice aX N kX) (.slice aY N kY)
    refine bodyPost_ret (v := .tuple #[.agg #[.slice aX N kX, .slice aY N kY], .int .i64 0]) (by simp [results, Try.results16, go_sem, y0, y1]) rfl ⟨_, _, _, _, rfl, RX2.out.put BR.out _ _, RY2.out.put BR.out _ _, (G5.out.setAt (by omega) _).setAt (by omega) _⟩

set_option maxHeartbeats 8000000 in
set_option maxRecDepth 100000 in
theorem Both_none (a a2 b b2 : Option Addr) (n c d m c3 d3 : Nat) (f g u v : Nat → Int) (w : World) (hr : RdI w a n f) (hs : RdI w a2 n g) (ht : RdI w b m u) (hu : RdI w b2 m v) (hv : VO n n f g) (hv2 : VO m m u v) (hx : vO (n * m) (n * m) (pdQ f u n m) (pdQ g v n m) = false) :
    Calls Try.prog 16 #[.agg #[.slice a n c, .slice a2 n d], .agg #[.slice b m c3, .slice b2 m d3]] w (RetD 0 0 (fun _ => 0) (fun _ => 0) 5 w) := by
  have n10 := hv.noise.few
  have m10 := hv2.noise.few
  have n1 := hv.noise.one
  have m1 := hv2.noise.one
  obtain ⟨W0, hW0⟩ : ∃ W0, ((w.alloc (.cells #[.slice a n c, .slice a2 n d] 24)).alloc (.cells #[.slice b m c3, .slice b2 m d3] 24)).alloc (.cells #[.slice none 0 0, .slice none 0 0] 24) = W0 := ⟨_, rfl⟩
  have G0 := Lib.hid (show Gr w W0 by rw [← hW0]; exact (((Gr.refl w).alloc _).alloc _).alloc _)
  have BA := Lib.hid (show BoxO W0 w.heap.size (.slice a n c) (.slice a2 n d) by rw [← hW0]; exact (BoxO.new rfl).gr (((Gr.refl _).alloc _).alloc _))
  have BB := Lib.hid (show BoxO W0 (w.heap.size + 1) (.slice b m c3) (.slice b2 m d3) by rw [← hW0]; exact (BoxO.new (by simp)).gr ((Gr.refl _).alloc _))
  have BR := Lib.hid (show Box2v W0 (w.heap.size + 2) (.slice none 0 0) (.slice none 0 0) by rw [← hW0]; exact Box2v.new (by simp))
  obtain ⟨p0, p1⟩ := BA.out
  obtain ⟨s0, s1⟩ := BB.out
  have C1 := Lib.hid (fun w' (k : Gr w w') => Valid_any a a2 n c n d f g w' (by omega) (by omega) (hr.gr k) (hs.gr k))
  rw [vO_iff.2 hv] at C1
  have C2 := Lib.hid (fun w' (k : Gr w w') => Valid_any b b2 m c3 m d3 u v w' (by omega) (by omega) (ht.gr k) (hu.gr k))
  rw [vO_iff.2 hv2] at C2
  have CP1 := Lib.hid (fun w' (k : Gr w w') => products_any a b n c m c3 f u w' hv.noise hv2.noise (hr.gr k) (ht.gr k))
  have CP2 := Lib.hid (fun w' (k : Gr w w') => products_any a2 b2 n d m d3 g v w' hv.signal hv2.signal (hs.gr k) (hu.gr k))
  have N100 : n * m ≤ 100 := Nat.mul_le_mul n10 m10
  have q1 : wrap64 ((n : Int) * (m : Int)) = ((n * m : Nat) : Int) := by rw [← Int.natCast_mul]; exact IntWalk.wrap64_in _ (by omega)
  have q2 : IntKind.i64.wrap ((n : Int) * (m : Int)) = ((n * m : Nat) : Int) := by rw [← Int.natCast_mul]; exact IntWalk.i64_in _ (by omega)
  clear hr hs ht hu hv hv2
  generalize pdQ f u n m = F at *
  generalize pdQ g v n m = G at *
  generalize n * m = N at *
  clear q1 q2
  go_enter Try.func16, Try.ntmps16
  go_wp2_with (first
    | (go_at_call 14; (with_reducible refine (C1.out _ G0.out).mono ?_); rintro e W1 ⟨rfl, g1⟩; have G1 := Lib.hid (G0.out.trans g1); have BA := Lib.hid (BA.out.gr g1); have BB := Lib.hid (BB.out.gr g1); have BR := Lib.hid (BR.out.gr g1); clear p0 p1 s0 s1; obtain ⟨p0, p1⟩ := BA.out; obtain ⟨s0, s1⟩ := BB.out; clear g1)
    | (go_at_call 14; (with_reducible refine (C2.out _ G1.out).mono ?_); rintro e W2 ⟨rfl, g2⟩; have G2 := Lib.hid (G1.out.trans g2); have BA := Lib.hid (BA.out.gr g2); have BB := Lib.hid (BB.out.gr g2); have BR := Lib.hid (BR.out.gr g2); clear p0 p1 s0 s1; obtain ⟨p0, p1⟩ := BA.out; obtain ⟨s0, s1⟩ := BB.out; clear g2))
  refine (wpIn_wide (n := 3)).1 ?_
  refine wpIn_region_held (fun w' => w'.cell? ⟨w.heap.size, 0, none⟩ = some (.slice a n c) ∧ w'.cell? ⟨w.heap.size, 1, none⟩ = some (.slice a2 n d) ∧ w'.cell? ⟨w.heap.size + 1, 0, none⟩ = some (.slice b m c3) ∧ w'.cell? ⟨w.heap.size + 1, 1, none⟩ = some (.slice b2 m d3) ∧ Gr w w') 13 (by kernel_rfl) rfl rfl ?_
  have hS : W2.drew.cell? ⟨w.heap.size, 0, none⟩ = some (.slice a n c) ∧ W2.drew.cell? ⟨w.heap.size, 1, none⟩ = some (.slice a2 n d) ∧ W2.drew.cell? ⟨w.heap.size + 1, 0, none⟩ = some (.slice b m c3) ∧ W2.drew.cell? ⟨w.heap.size + 1, 1, none⟩ = some (.slice b2 m d3) ∧ Gr w W2.drew := ⟨p0, p1, s0, s1, G2.out.drew⟩
  have BR := Lib.hid (BR.out.gr ((Gr.refl _).drew))
  obtain ⟨WD, hWD⟩ : ∃ WD, W2.drew = WD := ⟨_, rfl⟩
  rw [hWD] at hS BR ⊢
  clear hWD
  iterate 8 (first
    | (refine wpAnyHIn_take 0 (v := ?_) rfl (by kernel_rfl) (by kernel_rfl) (by kernel_rfl) (by decide +kernel) (fun _ _ _ h => h) (fun _ _ _ => trivial) (by rfl) (fun w' hSw => ?_) hS ?_; rotate_left 1; (focus (have z0 := hSw.1; have z1 := hSw.2.1; have z2 := hSw.2.2.1; have z3 := hSw.2.2.2.1; go_simp; try with_reducible rfl)); simp only [Act.put, List.setIfInBounds_toArray, List.set_cons_zero, List.set_cons_succ])
    | (refine wpAnyHIn_take 1 (v := ?_) rfl (by kernel_rfl) (by kernel_rfl) (by kernel_rfl) (by decide +kernel) (fun _ _ _ h => h) (fun _ _ _ => trivial) (by rfl) (fun w' hSw => ?_) hS ?_; rotate_left 1; (focus (have z0 := hSw.1; have z1 := hSw.2.1; have z2 := hSw.2.2.1; have z3 := hSw.2.2.2.1; go_simp; try with_reducible rfl)); simp only [Act.put, List.setIfInBounds_toArray, List.set_cons_zero, List.set_cons_succ])
    | (refine wpAnyHIn_take 2 (v := ?_) rfl (by kernel_rfl) (by kernel_rfl) (by kernel_rfl) (by decide +kernel) (fun _ _ _ h => h) (fun _ _ _ => trivial) (by rfl) (fun w' hSw => ?_) hS ?_; rotate_left 1; (focus (have z0 := hSw.1; have z1 := hSw.2.1; have z2 := hSw.2.2.1; have z3 := hSw.2.2.2.1; go_simp; try with_reducible rfl)); simp only [Act.put, List.setIfInBounds_toArray, List.set_cons_zero, List.set_cons_succ])
    | (refine wpAnyHIn_take 3 (v := ?_) rfl (by kernel_rfl) (by kernel_rfl) (by kernel_rfl) (by decide +kernel) (fun _ _ _ h => h) (fun _ _ _ => trivial) (by rfl) (fun w' hSw => ?_) hS ?_; rotate_left 1; (focus (have z0 := hSw.1; have z1 := hSw.2.1; have z2 := hSw.2.2.1; have z3 := hSw.2.2.2.1; go_simp; try with_reducible rfl)); simp only [Act.put, List.setIfInBounds_toArray, List.set_cons_zero, List.set_cons_succ])
    | (refine wpAnyHIn_take 5 (v := ?_) rfl (by kernel_rfl) (by kernel_rfl) (by kernel_rfl) (by decide +kernel) (fun _ _ _ h => h) (fun _ _ _ => trivial) (by rfl) (fun w' hSw => ?_) hS ?_; rotate_left 1; (focus (have z0 := hSw.1; have z1 := hSw.2.1; have z2 := hSw.2.2.1; have z3 := hSw.2.2.2.1; go_simp; try with_reducible rfl)); simp only [Act.put, List.setIfInBounds_toArray, List.set_cons_zero, List.set_cons_succ])
    | (refine wpAnyHIn_take 6 (v := ?_) rfl (by kernel_rfl) (by kernel_rfl) (by kernel_rfl) (by decide +kernel) (fun _ _ _ h => h) (fun _ _ _ => trivial) (by rfl) (fun w' hSw => ?_) hS ?_; rotate_left 1; (focus (have z0 := hSw.1; have z1 := hSw.2.1; have z2 := hSw.2.2.1; have z3 := hSw.2.2.2.1; go_simp; try with_reducible rfl)); simp only [Act.put, List.setIfInBounds_toArray, List.set_cons_zero, List.set_cons_succ])
    | (refine wpAnyHIn_take 7 (v := ?_) rfl (by kernel_rfl) (by kernel_rfl) (by kernel_rfl) (by decide +kernel) (fun _ _ _ h => h) (fun _ _ _ => trivial) (by rfl) (fun w' hSw => ?_) hS ?_; rotate_left 1; (focus (have z0 := hSw.1; have z1 := hSw.2.1; have z2 := hSw.2.2.1; have z3 := hSw.2.2.2.1; go_simp; try with_reducible rfl)); simp only [Act.put, List.setIfInBounds_toArray, List.set_cons_zero, List.set_cons_succ])
    | (refine wpAnyHIn_take 8 (v := ?_) rfl (by kernel_rfl) (by kernel_rfl) (by kernel_rfl) (by decide +kernel) (fun _ _ _ h => h) (fun _ _ _ => trivial) (by rfl) (fun w' hSw => ?_) hS ?_; rotate_left 1; (focus (have z0 := hSw.1; have z1 := hSw.2.1; have z2 := hSw.2.2.1; have z3 := hSw.2.2.2.1; go_simp; try with_reducible rfl)); simp only [Act.put, List.setIfInBounds_toArray, List.set_cons_zero, List.set_cons_succ]))
  refine wpAnyHIn_ready [4, 11] (by kernel_rfl) (by simp) ?_
  refine AllHIn.cons rfl (by rfl) (fun K hK => ?_) (AllHIn.cons rfl (by rfl) (fun K hK => ?_) (AllHIn.nil))
  · go_simp
    refine ⟨trivial, ?_⟩
    refine (callsIn_wide.2 (CP1.out _ hS.2.2.2.2)).mono ?_
    rintro e wX ⟨aX, kX, rfl, _, _, rdX, gX⟩
    have hS : wX.cell? ⟨w.heap.size, 0, none⟩ = some (.slice a n c) ∧ wX.cell? ⟨w.heap.size, 1, none⟩ = some (.slice a2 n d) ∧ wX.cell? ⟨w.heap.size + 1, 0, none⟩ = some (.slice b m c3) ∧ wX.cell? ⟨w.heap.size + 1, 1, none⟩ = some (.slice b2 m d3) ∧ Gr w wX := ⟨gX.cell hS.1, gX.cell hS.2.1, gX.cell hS.2.2.1, gX.cell hS.2.2.2.1, hS.2.2.2.2.trans gX⟩
    have BR := Lib.hid (BR.out.gr gX)
    have RX := Lib.hid rdX
    refine hK.out _ _ hS ?_
    clear hK K gX rdX
    refine wpAnyHIn_ready [9, 11] (by kernel_rfl) (by simp) ?_
    refine AllHIn.cons rfl (by rfl) (fun K hK => ?_) (AllHIn.cons rfl (by rfl) (fun K hK => ?_) (AllHIn.nil))
    · go_simp
      refine ⟨trivial, ?_⟩
      refine (callsIn_wide.2 (CP2.out _ hS.2.2.2.2)).mono ?_
      rintro e wY ⟨aY, kY, rfl, _, _, rdY, gX⟩
      have hS : wY.cell? ⟨w.heap.size, 0, none⟩ = some (.slice a n c) ∧ wY.cell? ⟨w.heap.size, 1, none⟩ = some (.slice a2 n d) ∧ wY.cell? ⟨w.heap.size + 1, 0, none⟩ = some (.slice b m c3) ∧ wY.cell? ⟨w.heap.size + 1, 1, none⟩ = some (.slice b2 m d3) ∧ Gr w wY := ⟨gX.cell hS.1, gX.cell hS.2.1, gX.cell hS.2.2.1, gX.cell hS.2.2.2.1, hS.2.2.2.2.trans gX⟩
      have BR := Lib.hid (BR.out.gr gX)
      have RY := Lib.hid rdY
      have RX := Lib.hid (RX.out.gr gX)
      refine hK.out _ _ hS ?_
      clear hK K gX rdY
      iterate 1 (first
        | (refine wpAnyHIn_take 10 (v := ?_) rfl (by kernel_rfl) (by kernel_rfl) (by kernel_rfl) (by decide +kernel) (fun _ _ _ h => h) (fun _ _ _ => trivial) (by rfl) (fun w' hSw => ?_) hS ?_; rotate_left 1; (focus (skip; go_simp; try with_reducible rfl)); simp only [Act.put, List.setIfInBounds_toArray, List.set_cons_zero, List.set_cons_succ]))
      refine wpAnyHIn_ready [11] (by kernel_rfl) (by simp) ?_
      refine AllHIn.cons rfl (by rfl) (fun K hK => ?_) (AllHIn.nil)
      go_simp
      have gX := (Gr.refl wY).alloc (.cells #[.slice none 0 0, .slice none 0 0] 24)
      obtain ⟨wa, hwa⟩ : ∃ wa, wY.alloc (.cells #[.slice none 0 0, .slice none 0 0] 24) = wa := ⟨_, rfl⟩
      have B6 := Lib.hid (show Box2v wa wY.heap.size (.slice none 0 0) (.slice none 0 0) by rw [← hwa]; exact Box2v.new rfl)
      have N6 : w.heap.size + 2 < wY.heap.size := World.block_lt_of_cell? wY _ BR.out.1
      rw [hwa] at gX ⊢
      have hS : wa.cell? ⟨w.heap.size, 0, none⟩ = some (.slice a n c) ∧ wa.cell? ⟨w.heap.size, 1, none⟩ = some (.slice a2 n d) ∧ wa.cell? ⟨w.heap.size + 1, 0, none⟩ = some (.slice b m c3) ∧ wa.cell? ⟨w.heap.size + 1, 1, none⟩ = some (.slice b2 m d3) ∧ Gr w wa := ⟨gX.cell hS.1, gX.cell hS.2.1, gX.cell hS.2.2.1, gX.cell hS.2.2.2.1, hS.2.2.2.2.trans gX⟩
      have BR := Lib.hid (BR.out.gr gX)
      have RX := Lib.hid (RX.out.gr gX)
      have RY := Lib.hid (RY.out.gr gX)
      refine hK.out _ _ hS ?_
      clear hK K gX hwa
      refine wpAnyHIn_ready [12] (by kernel_rfl) (by simp) ?_
      refine AllHIn.cons rfl (by rfl) (fun K hK => ?_) AllHIn.nil
      obtain ⟨k0, k1, k2, k3⟩ := B6.out
      have k5 := cell_by (k := 0) k1 (by omega) (Value.slice aX N kX)
      go_simp
      obtain ⟨WZ, hWZ⟩ : ∃ WZ, (wa.setCell ⟨wY.heap.size, 0, none⟩ (.slice aX N kX)).setCell ⟨wY.heap.size, 1, none⟩ (.slice aY N kY) = WZ := ⟨_, rfl⟩
      have hS : WZ.cell? ⟨w.heap.size, 0, none⟩ = some (.slice a n c) ∧ WZ.cell? ⟨w.heap.size, 1, none⟩ = some (.slice a2 n d) ∧ WZ.cell? ⟨w.heap.size + 1, 0, none⟩ = some (.slice b m c3) ∧ WZ.cell? ⟨w.heap.size + 1, 1, none⟩ = some (.slice b2 m d3) ∧ Gr w WZ := by rw [← hWZ]; exact ⟨cell_far (cell_far hS.1 (by omega) _) (by omega) _, cell_far (cell_far hS.2.1 (by omega) _) (by omega) _, cell_far (cell_far hS.2.2.1 (by omega) _) (by omega) _, cell_far (cell_far hS.2.2.2.1 (by omega) _) (by omega) _, (hS.2.2.2.2.setAt (by omega) _).setAt (by omega) _⟩
      have BZ := Lib.hid (show Box2v WZ (wY.heap.size) (.slice aX N kX) (.slice aY N kY) by rw [← hWZ]; exact Box2v.put B6.out _ _)
      have BR := Lib.hid (show Box2v WZ (w.heap.size + 2) (.slice none 0 0) (.slice none 0 0) by rw [← hWZ]; exact BR.out.far (by omega) _ _)
      have RX2 := Lib.hid (show RdI WZ aX N F by rw [← hWZ]; exact RX.out.put B6.out _ _)
      have RY2 := Lib.hid (show RdI WZ aY N G by rw [← hWZ]; exact RY.out.put B6.out _ _)
      simp only [hWZ]
      refine hK.out _ _ hS ?_
      clear hK K k0 k1 k2 k3 k5 hWZ
      refine wpAnyHIn_done (by kernel_rfl) ?_ _
      have C3 := Lib.hid (fun w' (k : Gr WZ w') => Valid_any aX aY N kX N kY F G w' (by omega) (by omega) (RX2.out.gr k) (RY2.out.gr k))
      rw [hx] at C3
      obtain ⟨z0, z1, _⟩ := BZ.out
      have GZ := Lib.hid hS.2.2.2.2
      clear hS
      go_wp2_with (go_at_call 14; (with_reducible refine (C3.out _ (by first | exact Gr.refl _ | exact (Gr.refl _).drew)).mono ?_); rintro e W5 ⟨rfl, g5⟩; have G5 := Lib.hid (GZ.out.trans g5); have BZ := Lib.hid (BZ.out.gr g5); have BR := Lib.hid (BR.out.gr g5); have RX2 := Lib.hid (RX2.out.gr g5); have RY2 := Lib.hid (RY2.out.gr g5); clear z0 z1; obtain ⟨z0, z1, _⟩ := BZ.out; obtain ⟨k0, k1, k2, k3⟩ := BR.out; clear g5)
      obtain ⟨y0, y1, _⟩ := BR.out.put (.slice none 0 0) (.slice none 0 0)
      refine bodyPost_ret (v := .tuple #[.agg #[.slice none 0 0, .slice none 0 0], .int .i64 5]) (by simp [results, Try.results16, go_sem, y0, y1]) rfl (RetD.no 5 ((G5.out.setAt (by omega) _).setAt (by omega) _))
    · go_simp
      have gX := (Gr.refl wX).alloc (.cells #[.slice none 0 0, .slice none 0 0] 24)
      obtain ⟨wa, hwa⟩ : ∃ wa, wX.alloc (.cells #[.slice none 0 0, .slice none 0 0] 24) = wa := ⟨_, rfl⟩
      have B6 := Lib.hid (show Box2v wa wX.heap.size (.slice none 0 0) (.slice none 0 0) by rw [← hwa]; exact Box2v.new rfl)
      have N6 : w.heap.size + 2 < wX.heap.size := World.block_lt_of_cell? wX _ BR.out.1
      rw [hwa] at gX ⊢
      have hS : wa.cell? ⟨w.heap.size, 0, none⟩ = some (.slice a n c) ∧ wa.cell? ⟨w.heap.size, 1, none⟩ = some (.slice a2 n d) ∧ wa.cell? ⟨w.heap.size + 1, 0, none⟩ = some (.slice b m c3) ∧ wa.cell? ⟨w.heap.size + 1, 1, none⟩ = some (.slice b2 m d3) ∧ Gr w wa := ⟨gX.cell hS.1, gX.cell hS.2.1, gX.cell hS.2.2.1, gX.cell hS.2.2.2.1, hS.2.2.2.2.trans gX⟩
      have BR := Lib.hid (BR.out.gr gX)
      have RX := Lib.hid (RX.out.gr gX)
      refine hK.out _ _ hS ?_
      clear hK K gX hwa
      refine wpAnyHIn_ready [9] (by kernel_rfl) (by simp) ?_
      refine AllHIn.cons rfl (by rfl) (fun K hK => ?_) (AllHIn.nil)
      go_simp
      refine ⟨trivial, ?_⟩
      refine (callsIn_wide.2 (CP2.out _ hS.2.2.2.2)).mono ?_
      rintro e wY ⟨aY, kY, rfl, _, _, rdY, gX⟩
      have hS : wY.cell? ⟨w.heap.size, 0, none⟩ = some (.slice a n c) ∧ wY.cell? ⟨w.heap.size, 1, none⟩ = some (.slice a2 n d) ∧ wY.cell? ⟨w.heap.size + 1, 0, none⟩ = some (.slice b m c3) ∧ wY.cell? ⟨w.heap.size + 1, 1, none⟩ = some (.slice b2 m d3) ∧ Gr w wY := ⟨gX.cell hS.1, gX.cell hS.2.1, gX.cell hS.2.2.1, gX.cell hS.2.2.2.1, hS.2.2.2.2.trans gX⟩
      have BR := Lib.hid (BR.out.gr gX)
      have RY := Lib.hid rdY
      have RX := Lib.hid (RX.out.gr gX)
      have B6 := Lib.hid (B6.out.gr gX)
      refine hK.out _ _ hS ?_
      clear hK K gX rdY
      iterate 1 (first
        | (refine wpAnyHIn_take 10 (v := ?_) rfl (by kernel_rfl) (by kernel_rfl) (by kernel_rfl) (by decide +kernel) (fun _ _ _ h => h) (fun _ _ _ => trivial) (by rfl) (fun w' hSw => ?_) hS ?_; rotate_left 1; (focus (skip; go_simp; try with_reducible rfl)); simp only [Act.put, List.setIfInBounds_toArray, List.set_cons_zero, List.set_cons_succ]))
      refine wpAnyHIn_ready [12] (by kernel_rfl) (by simp) ?_
      refine AllHIn.cons rfl (by rfl) (fun K hK => ?_) AllHIn.nil
      obtain ⟨k0, k1, k2, k3⟩ := B6.out
      have k5 := cell_by (k := 0) k1 (by omega) (Value.slice aX N kX)
      go_simp
      obtain ⟨WZ, hWZ⟩ : ∃ WZ, (wY.setCell ⟨wX.heap.size, 0, none⟩ (.slice aX N kX)).setCell ⟨wX.heap.size, 1, none⟩ (.slice aY N kY) = WZ := ⟨_, rfl⟩
      have hS : WZ.cell? ⟨w.heap.size, 0, none⟩ = some (.slice a n c) ∧ WZ.cell? ⟨w.heap.size, 1, none⟩ = some (.slice a2 n d) ∧ WZ.cell? ⟨w.heap.size + 1, 0, none⟩ = some (.slice b m c3) ∧ WZ.cell? ⟨w.heap.size + 1, 1, none⟩ = some (.slice b2 m d3) ∧ Gr w WZ := by rw [← hWZ]; exact ⟨cell_far (cell_far hS.1 (by omega) _) (by omega) _, cell_far (cell_far hS.2.1 (by omega) _) (by omega) _, cell_far (cell_far hS.2.2.1 (by omega) _) (by omega) _, cell_far (cell_far hS.2.2.2.1 (by omega) _) (by omega) _, (hS.2.2.2.2.setAt (by omega) _).setAt (by omega) _⟩
      have BZ := Lib.hid (show Box2v WZ (wX.heap.size) (.slice aX N kX) (.slice aY N kY) by rw [← hWZ]; exact Box2v.put B6.out _ _)
      have BR := Lib.hid (show Box2v WZ (w.heap.size + 2) (.slice none 0 0) (.slice none 0 0) by rw [← hWZ]; exact BR.out.far (by omega) _ _)
      have RX2 := Lib.hid (show RdI WZ aX N F by rw [← hWZ]; exact RX.out.put B6.out _ _)
      have RY2 := Lib.hid (show RdI WZ aY N G by rw [← hWZ]; exact RY.out.put B6.out _ _)
      simp only [hWZ]
      refine hK.out _ _ hS ?_
      clear hK K k0 k1 k2 k3 k5 hWZ
      refine wpAnyHIn_done (by kernel_rfl) ?_ _
      have C3 := Lib.hid (fun w' (k : Gr WZ w') => Valid_any aX aY N kX N kY F G w' (by omega) (by omega) (RX2.out.gr k) (RY2.out.gr k))
      rw [hx] at C3
      obtain ⟨z0, z1, _⟩ := BZ.out
      have GZ := Lib.hid hS.2.2.2.2
      clear hS
      go_wp2_with (go_at_call 14; (with_reducible refine (C3.out _ (by first | exact Gr.refl _ | exact (Gr.refl _).drew)).mono ?_); rintro e W5 ⟨rfl, g5⟩; have G5 := Lib.hid (GZ.out.trans g5); have BZ := Lib.hid (BZ.out.gr g5); have BR := Lib.hid (BR.out.gr g5); have RX2 := Lib.hid (RX2.out.gr g5); have RY2 := Lib.hid (RY2.out.gr g5); clear z0 z1; obtain ⟨z0, z1, _⟩ := BZ.out; obtain ⟨k0, k1, k2, k3⟩ := BR.out; clear g5)
      obtain ⟨y0, y1, _⟩ := BR.out.put (.slice none 0 0) (.slice none 0 0)
      refine bodyPost_ret (v := .tuple #[.agg #[.slice none 0 0, .slice none 0 0], .int .i64 5]) (by simp [results, Try.results16, go_sem, y0, y1]) rfl (RetD.no 5 ((G5.out.setAt (by omega) _).setAt (by omega) _))
  · go_simp
    have gX := (Gr.refl WD).alloc (.cells #[.slice none 0 0, .slice none 0 0] 24)
    obtain ⟨wa, hwa⟩ : ∃ wa, WD.alloc (.cells #[.slice none 0 0, .slice none 0 0] 24) = wa := ⟨_, rfl⟩
    have B6 := Lib.hid (show Box2v wa WD.heap.size (.slice none 0 0) (.slice none 0 0) by rw [← hwa]; exact Box2v.new rfl)
    have N6 : w.heap.size + 2 < WD.heap.size := World.block_lt_of_cell? WD _ BR.out.1
    rw [hwa] at gX ⊢
    have hS : wa.cell? ⟨w.heap.size, 0, none⟩ = some (.slice a n c) ∧ wa.cell? ⟨w.heap.size, 1, none⟩ = some (.slice a2 n d) ∧ wa.cell? ⟨w.heap.size + 1, 0, none⟩ = some (.slice b m c3) ∧ wa.cell? ⟨w.heap.size + 1, 1, none⟩ = some (.slice b2 m d3) ∧ Gr w wa := ⟨gX.cell hS.1, gX.cell hS.2.1, gX.cell hS.2.2.1, gX.cell hS.2.2.2.1, hS.2.2.2.2.trans gX⟩
    have BR := Lib.hid (BR.out.gr gX)
    refine hK.out _ _ hS ?_
    clear hK K gX hwa
    refine wpAnyHIn_ready [4] (by kernel_rfl) (by simp) ?_
    refine AllHIn.cons rfl (by rfl) (fun K hK => ?_) (AllHIn.nil)
    go_simp
    refine ⟨trivial, ?_⟩
    refine (callsIn_wide.2 (CP1.out _ hS.2.2.2.2)).mono ?_
    rintro e wX ⟨aX, kX, rfl, _, _, rdX, gX⟩
    have hS : wX.cell? ⟨w.heap.size, 0, none⟩ = some (.slice a n c) ∧ wX.cell? ⟨w.heap.size, 1, none⟩ = some (.slice a2 n d) ∧ wX.cell? ⟨w.heap.size + 1, 0, none⟩ = some (.slice b m c3) ∧ wX.cell? ⟨w.heap.size + 1, 1, none⟩ = some (.slice b2 m d3) ∧ Gr w wX := ⟨gX.cell hS.1, gX.cell hS.2.1, gX.cell hS.2.2.1, gX.cell hS.2.2.2.1, hS.2.2.2.2.trans gX⟩
    have BR := Lib.hid (BR.out.gr gX)
    have RX := Lib.hid rdX
    have B6 := Lib.hid (B6.out.gr gX)
    refine hK.out _ _ hS ?_
    clear hK K gX rdX
    refine wpAnyHIn_ready [9] (by kernel_rfl) (by simp) ?_
    refine AllHIn.cons rfl (by rfl) (fun K hK => ?_) (AllHIn.nil)
    go_simp
    refine ⟨trivial, ?_⟩
    refine (callsIn_wide.2 (CP2.out _ hS.2.2.2.2)).mono ?_
    rintro e wY ⟨aY, kY, rfl, _, _, rdY, gX⟩
    have hS : wY.cell? ⟨w.heap.size, 0, none⟩ = some (.slice a n c) ∧ wY.cell? ⟨w.heap.size, 1, none⟩ = some (.slice a2 n d) ∧ wY.cell? ⟨w.heap.size + 1, 0, none⟩ = some (.slice b m c3) ∧ wY.cell? ⟨w.heap.size + 1, 1, none⟩ = some (.slice b2 m d3) ∧ Gr w wY := ⟨gX.cell hS.1, gX.cell hS.2.1, gX.cell hS.2.2.1, gX.cell hS.2.2.2.1, hS.2.2.2.2.trans gX⟩
    have BR := Lib.hid (BR.out.gr gX)
    have RY := Lib.hid rdY
    have RX := Lib.hid (RX.out.gr gX)
    have B6 := Lib.hid (B6.out.gr gX)
    refine hK.out _ _ hS ?_
    clear hK K gX rdY
    iterate 1 (first
      | (refine wpAnyHIn_take 10 (v := ?_) rfl (by kernel_rfl) (by kernel_rfl) (by kernel_rfl) (by decide +kernel) (fun _ _ _ h => h) (fun _ _ _ => trivial) (by rfl) (fun w' hSw => ?_) hS ?_; rotate_left 1; (focus (skip; go_simp; try with_reducible rfl)); simp only [Act.put, List.setIfInBounds_toArray, List.set_cons_zero, List.set_cons_succ]))
    refine wpAnyHIn_ready [12] (by kernel_rfl) (by simp) ?_
    refine AllHIn.cons rfl (by rfl) (fun K hK => ?_) AllHIn.nil
    obtain ⟨k0, k1, k2, k3⟩ := B6.out
    have k5 := cell_by (k := 0) k1 (by omega) (Value.slice aX N kX)
    go_simp
    obtain ⟨WZ, hWZ⟩ : ∃ WZ, (wY.setCell ⟨WD.heap.size, 0, none⟩ (.slice aX N kX)).setCell ⟨WD.heap.size, 1, none⟩ (.slice aY N kY) = WZ := ⟨_, rfl⟩
    have hS : WZ.cell? ⟨w.heap.size, 0, none⟩ = some (.slice a n c) ∧ WZ.cell? ⟨w.heap.size, 1, none⟩ = some (.slice a2 n d) ∧ WZ.cell? ⟨w.heap.size + 1, 0, none⟩ = some (.slice b m c3) ∧ WZ.cell? ⟨w.heap.size + 1, 1, none⟩ = some (.slice b2 m d3) ∧ Gr w WZ := by rw [← hWZ]; exact ⟨cell_far (cell_far hS.1 (by omega) _) (by omega) _, cell_far (cell_far hS.2.1 (by omega) _) (by omega) _, cell_far (cell_far hS.2.2.1 (by omega) _) (by omega) _, cell_far (cell_far hS.2.2.2.1 (by omega) _) (by omega) _, (hS.2.2.2.2.setAt (by omega) _).setAt (by omega) _⟩
    have BZ := Lib.hid (show Box2v WZ (WD.heap.size) (.slice aX N kX) (.slice aY N kY) by rw [← hWZ]; exact Box2v.put B6.out _ _)
    have BR := Lib.hid (show Box2v WZ (w.heap.size + 2) (.slice none 0 0) (.slice none 0 0) by rw [← hWZ]; exact BR.out.far (by omega) _ _)
    have RX2 := Lib.hid (show RdI WZ aX N F by rw [← hWZ]; exact RX.out.put B6.out _ _)
    have RY2 := Lib.hid (show RdI WZ aY N G by rw [← hWZ]; exact RY.out.put B6.out _ _)
    simp only [hWZ]
    refine hK.out _ _ hS ?_
    clear hK K k0 k1 k2 k3 k5 hWZ
    refine wpAnyHIn_done (by kernel_rfl) ?_ _
    have C3 := Lib.hid (fun w' (k : Gr WZ w') => Valid_any aX aY N kX N kY F G w' (by omega) (by omega) (RX2.out.gr k) (RY2.out.gr k))
    rw [hx] at C3
    obtain ⟨z0, z1, _⟩ := BZ.out
    have GZ := Lib.hid hS.2.2.2.2
    clear hS
    go_wp2_with (go_at_call 14; (with_reducible refine (C3.out _ (by first | exact Gr.refl _ | exact (Gr.refl _).drew)).mono ?_); rintro e W5 ⟨rfl, g5⟩; have G5 := Lib.hid (GZ.out.trans g5); have BZ := Lib.hid (BZ.out.gr g5); have BR := Lib.hid (BR.out.gr g5); have RX2 := Lib.hid (RX2.out.gr g5); have RY2 := Lib.hid (RY2.out.gr g5); clear z0 z1; obtain ⟨z0, z1, _⟩ := BZ.out; obtain ⟨k0, k1, k2, k3⟩ := BR.out; clear g5)
    obtain ⟨y0, y1, _⟩ := BR.out.put (.slice none 0 0) (.slice none 0 0)
    refine bodyPost_ret (v := .tuple #[.agg #[.slice none 0 0, .slice none 0 0], .int .i64 5]) (by simp [results, Try.results16, go_sem, y0, y1]) rfl (RetD.no 5 ((G5.out.setAt (by omega) _).setAt (by omega) _))

set_option maxHeartbeats 8000000 in
set_option maxRecDepth 100000 in
theorem refBoth_no1 (a a2 b b2 : Option Addr) (n c n2 d m c3 m2 d3 : Nat) (f g u v : Nat → Int) (w : World) (hn : n ≤ 1000) (hn2 : n2 ≤ 1000) (_hm : m ≤ 1000) (_hm2 : m2 ≤ 1000) (hr : RdI w a n f) (hs : RdI w a2 n2 g) (_ht : RdI w b m u) (_hu : RdI w b2 m2 v) (hv : vO n n2 f g = false) :
    Calls Try.prog 31 #[.agg #[.slice a n c, .slice a2 n2 d], .agg #[.slice b m c3, .slice b2 m2 d3]] w (RetD 0 0 (fun _ => 0) (fun _ => 0) 70 w) := by
  obtain ⟨W0, hW0⟩ : ∃ W0, ((w.alloc (.cells #[.slice a n c, .slice a2 n2 d] 24)).alloc (.cells #[.slice b m c3, .slice b2 m2 d3] 24)).alloc (.cells #[.slice none 0 0, .slice none 0 0] 24) = W0 := ⟨_, rfl⟩
  have G0 := Lib.hid (show Gr w W0 by rw [← hW0]; exact (((Gr.refl w).alloc _).alloc _).alloc _)
  have BA := Lib.hid (show BoxO W0 w.heap.size (.slice a n c) (.slice a2 n2 d) by rw [← hW0]; exact (BoxO.new rfl).gr (((Gr.refl _).alloc _).alloc _))
  have BB := Lib.hid (show BoxO W0 (w.heap.size + 1) (.slice b m c3) (.slice b2 m2 d3) by rw [← hW0]; exact (BoxO.new (by simp)).gr ((Gr.refl _).alloc _))
  have BR := Lib.hid (show Box2v W0 (w.heap.size + 2) (.slice none 0 0) (.slice none 0 0) by rw [← hW0]; exact Box2v.new (by simp))
  obtain ⟨p0, p1⟩ := BA.out
  obtain ⟨s0, s1⟩ := BB.out
  have C1 := Lib.hid (fun w' (k : Gr w w') => refValid_any a a2 n c n2 d f g w' hn hn2 (hr.gr k) (hs.gr k))
  rw [hv] at C1
  clear hr hs _ht _hu hv
  go_enter Try.func31, Try.ntmps31
  go_wp2_with ((go_at_call 15; (with_reducible refine (C1.out _ G0.out).mono ?_); rintro e W1 ⟨rfl, g1⟩; have G1 := Lib.hid (G0.out.trans g1); have BA := Lib.hid (BA.out.gr g1); have BB := Lib.hid (BB.out.gr g1); have BR := Lib.hid (BR.out.gr g1); clear p0 p1 s0 s1; obtain ⟨p0, p1⟩ := BA.out; obtain ⟨s0, s1⟩ := BB.out; clear g1; obtain ⟨k0, k1, k2, k3⟩ := BR.out))
  obtain ⟨z0, z1, _⟩ := BR.out.put (.slice none 0 0) (.slice none 0 0)
  refine bodyPost_ret (v := .tuple #[.agg #[.slice none 0 0, .slice none 0 0], .int .i64 70]) (by simp [results, Try.results31, go_sem, z0, z1]) rfl (RetD.no 70 ?_)
  repeat (first | exact G1.out | refine Gr.setCell ?_ (by simp; omega) _ | refine Gr.setCell ?_ (by simp) _ | refine Gr.alloc ?_ _ | refine Gr.drewN ?_ _ | refine Gr.drew ?_)

set_option maxHeartbeats 8000000 in
set_option maxRecDepth 100000 in
theorem refBoth_no2 (a a2 b b2 : Option Addr) (n c n2 d m c3 m2 d3 : Nat) (f g u v : Nat → Int) (w : World) (hn : n ≤ 1000) (hn2 : n2 ≤ 1000) (hm : m ≤ 1000) (hm2 : m2 ≤ 1000) (hr : RdI w a n f) (hs : RdI w a2 n2 g) (ht : RdI w b m u) (hu : RdI w b2 m2 v) (hv : vO n n2 f g = true) (hv2 : vO m m2 u v = false) :
    Calls Try.prog 31 #[.agg #[.slice a n c, .slice a2 n2 d], .agg #[.slice b m c3, .slice b2 m2 d3]] w (RetD 0 0 (fun _ => 0) (fun _ => 0) 70 w) := by
  obtain ⟨W0, hW0⟩ : ∃ W0, ((w.alloc (.cells #[.slice a n c, .slice a2 n2 d] 24)).alloc (.cells #[.slice b m c3, .slice b2 m2 d3] 24)).alloc (.cells #[.slice none 0 0, .slice none 0 0] 24) = W0 := ⟨_, rfl⟩
  have G0 := Lib.hid (show Gr w W0 by rw [← hW0]; exact (((Gr.refl w).alloc _).alloc _).alloc _)
  have BA := Lib.hid (show BoxO W0 w.heap.size (.slice a n c) (.slice a2 n2 d) by rw [← hW0]; exact (BoxO.new rfl).gr (((Gr.refl _).alloc _).alloc _))
  have BB := Lib.hid (show BoxO W0 (w.heap.size + 1) (.slice b m c3) (.slice b2 m2 d3) by rw [← hW0]; exact (BoxO.new (by simp)).gr ((Gr.refl _).alloc _))
  have BR := Lib.hid (show Box2v W0 (w.heap.size + 2) (.slice none 0 0) (.slice none 0 0) by rw [← hW0]; exact Box2v.new (by simp))
  obtain ⟨p0, p1⟩ := BA.out
  obtain ⟨s0, s1⟩ := BB.out
  have C1 := Lib.hid (fun w' (k : Gr w w') => refValid_any a a2 n c n2 d f g w' hn hn2 (hr.gr k) (hs.gr k))
  rw [hv] at C1
  have C2 := Lib.hid (fun w' (k : Gr w w') => refValid_any b b2 m c3 m2 d3 u v w' hm hm2 (ht.gr k) (hu.gr k))
  rw [hv2] at C2
  clear hr hs ht hu hv hv2
  go_enter Try.func31, Try.ntmps31
  go_wp2_with (first
    | (go_at_call 15; (with_reducible refine (C1.out _ G0.out).mono ?_); rintro e W1 ⟨rfl, g1⟩; have G1 := Lib.hid (G0.out.trans g1); have BA := Lib.hid (BA.out.gr g1); have BB := Lib.hid (BB.out.gr g1); have BR := Lib.hid (BR.out.gr g1); clear p0 p1 s0 s1; obtain ⟨p0, p1⟩ := BA.out; obtain ⟨s0, s1⟩ := BB.out; clear g1)
    | (go_at_call 15; (with_reducible refine (C2.out _ G1.out).mono ?_); rintro e W2 ⟨rfl, g2⟩; have G2 := Lib.hid (G1.out.trans g2); have BA := Lib.hid (BA.out.gr g2); have BB := Lib.hid (BB.out.gr g2); have BR := Lib.hid (BR.out.gr g2); clear p0 p1 s0 s1; obtain ⟨p0, p1⟩ := BA.out; obtain ⟨s0, s1⟩ := BB.out; clear g2; obtain ⟨k0, k1, k2, k3⟩ := BR.out))
  obtain ⟨z0, z1, _⟩ := BR.out.put (.slice none 0 0) (.slice none 0 0)
  refine bodyPost_ret (v := .tuple #[.agg #[.slice none 0 0, .slice none 0 0], .int .i64 70]) (by simp [results, Try.results31, go_sem, z0, z1]) rfl (RetD.no 70 ?_)
  repeat (first | exact G2.out | refine Gr.setCell ?_ (by simp; omega) _ | refine Gr.setCell ?_ (by simp) _ | refine Gr.alloc ?_ _ | refine Gr.drewN ?_ _ | refine Gr.drew ?_)

set_option maxHeartbeats 8000000 in
set_option maxRecDepth 100000 in
theorem refBoth_fit (a a2 b b2 : Option Addr) (n c d m c3 d3 : Nat) (f g u v : Nat → Int) (w : World) (hr : RdI w a n f) (hs : RdI w a2 n g) (ht : RdI w b m u) (hu : RdI w b2 m v) (hv : VO n n f g) (hv2 : VO m m u v) (hx : vO (n * m) (n * m) (pdQ f u n m) (pdQ g v n m) = true) :
    Calls Try.prog 31 #[.agg #[.slice a n c, .slice a2 n d], .agg #[.slice b m c3, .slice b2 m d3]] w (RetD (n * m) (n * m) (pdQ f u n m) (pdQ g v n m) 0 w) := by
  have n10 := hv.noise.few
  have m10 := hv2.noise.few
  have n1 := hv.noise.one
  have m1 := hv2.noise.one
  obtain ⟨W0, hW0⟩ : ∃ W0, ((w.alloc (.cells #[.slice a n c, .slice a2 n d] 24)).alloc (.cells #[.slice b m c3, .slice b2 m d3] 24)).alloc (.cells #[.slice none 0 0, .slice none 0 0] 24) = W0 := ⟨_, rfl⟩
  have G0 := Lib.hid (show Gr w W0 by rw [← hW0]; exact (((Gr.refl w).alloc _).alloc _).alloc _)
  have BA := Lib.hid (show BoxO W0 w.heap.size (.slice a n c) (.slice a2 n d) by rw [← hW0]; exact (BoxO.new rfl).gr (((Gr.refl _).alloc _).alloc _))
  have BB := Lib.hid (show BoxO W0 (w.heap.size + 1) (.slice b m c3) (.slice b2 m d3) by rw [← hW0]; exact (BoxO.new (by simp)).gr ((Gr.refl _).alloc _))
  have BR := Lib.hid (show Box2v W0 (w.heap.size + 2) (.slice none 0 0) (.slice none 0 0) by rw [← hW0]; exact Box2v.new (by simp))
  obtain ⟨p0, p1⟩ := BA.out
  obtain ⟨s0, s1⟩ := BB.out
  have C1 := Lib.hid (fun w' (k : Gr w w') => refValid_any a a2 n c n d f g w' (by omega) (by omega) (hr.gr k) (hs.gr k))
  rw [vO_iff.2 hv] at C1
  have C2 := Lib.hid (fun w' (k : Gr w w') => refValid_any b b2 m c3 m d3 u v w' (by omega) (by omega) (ht.gr k) (hu.gr k))
  rw [vO_iff.2 hv2] at C2
  have CP1 := Lib.hid (fun w' (k : Gr w w') => refproducts_any a b n c m c3 f u w' hv.noise hv2.noise (hr.gr k) (ht.gr k))
  have CP2 := Lib.hid (fun w' (k : Gr w w') => refproducts_any a2 b2 n d m d3 g v w' hv.signal hv2.signal (hs.gr k) (hu.gr k))
  have N100 : n * m ≤ 100 := Nat.mul_le_mul n10 m10
  have q1 : wrap64 ((n : Int) * (m : Int)) = ((n * m : Nat) : Int) := by rw [← Int.natCast_mul]; exact IntWalk.wrap64_in _ (by omega)
  have q2 : IntKind.i64.wrap ((n : Int) * (m : Int)) = ((n * m : Nat) : Int) := by rw [← Int.natCast_mul]; exact IntWalk.i64_in _ (by omega)
  clear hr hs ht hu hv hv2
  have NL : n * m ≤ 10 := (vO_iff.1 hx).noise.few
  generalize pdQ f u n m = F at *
  generalize pdQ g v n m = G at *
  generalize n * m = N at *
  have NL2 : ¬ ((N : Nat) : Int) > 10 := by omega
  go_enter Try.func31, Try.ntmps31
  go_wp2_with (first
    | (go_at_call 15; (with_reducible refine (C1.out _ G0.out).mono ?_); rintro e W1 ⟨rfl, g1⟩; have G1 := Lib.hid (G0.out.trans g1); have BA := Lib.hid (BA.out.gr g1); have BB := Lib.hid (BB.out.gr g1); have BR := Lib.hid (BR.out.gr g1); clear p0 p1 s0 s1; obtain ⟨p0, p1⟩ := BA.out; obtain ⟨s0, s1⟩ := BB.out; clear g1)
    | (go_at_call 15; (with_reducible refine (C2.out _ G1.out).mono ?_); rintro e W2 ⟨rfl, g2⟩; have G2 := Lib.hid (G1.out.trans g2); have BA := Lib.hid (BA.out.gr g2); have BB := Lib.hid (BB.out.gr g2); have BR := Lib.hid (BR.out.gr g2); clear p0 p1 s0 s1; obtain ⟨p0, p1⟩ := BA.out; obtain ⟨s0, s1⟩ := BB.out; clear g2))
  refine (wpIn_wide (n := 3)).1 ?_
  refine wpIn_region_held (fun w' => w'.cell? ⟨w.heap.size, 0, none⟩ = some (.slice a n c) ∧ w'.cell? ⟨w.heap.size, 1, none⟩ = some (.slice a2 n d) ∧ w'.cell? ⟨w.heap.size + 1, 0, none⟩ = some (.slice b m c3) ∧ w'.cell? ⟨w.heap.size + 1, 1, none⟩ = some (.slice b2 m d3) ∧ Gr w w') 13 (by kernel_rfl) rfl rfl ?_
  have hS : W2.drew.cell? ⟨w.heap.size, 0, none⟩ = some (.slice a n c) ∧ W2.drew.cell? ⟨w.heap.size, 1, none⟩ = some (.slice a2 n d) ∧ W2.drew.cell? ⟨w.heap.size + 1, 0, none⟩ = some (.slice b m c3) ∧ W2.drew.cell? ⟨w.heap.size + 1, 1, none⟩ = some (.slice b2 m d3) ∧ Gr w W2.drew := ⟨p0, p1, s0, s1, G2.out.drew⟩
  have BR := Lib.hid (BR.out.gr ((Gr.refl _).drew))
  obtain ⟨WD, hWD⟩ : ∃ WD, W2.drew = WD := ⟨_, rfl⟩
  rw [hWD] at hS BR ⊢
  clear hWD
  iterate 8 (first
    | (refine wpAnyHIn_take 0 (v := ?_) rfl (by kernel_rfl) (by kernel_rfl) (by kernel_rfl) (by decide +kernel) (fun _ _ _ h => h) (fun _ _ _ => trivial) (by rfl) (fun w' hSw => ?_) hS ?_; rotate_left 1; (focus (have z0 := hSw.1; have z1 := hSw.2.1; have z2 := hSw.2.2.1; have z3 := hSw.2.2.2.1; go_simp; try with_reducible rfl)); simp only [Act.put, List.setIfInBounds_toArray, List.set_cons_zero, List.set_cons_succ])
    | (refine wpAnyHIn_take 1 (v := ?_) rfl (by kernel_rfl) (by kernel_rfl) (by kernel_rfl) (by decide +kernel) (fun _ _ _ h => h) (fun _ _ _ => trivial) (by rfl) (fun w' hSw => ?_) hS ?_; rotate_left 1; (focus (have z0 := hSw.1; have z1 := hSw.2.1; have z2 := hSw.2.2.1; have z3 := hSw.2.2.2.1; go_simp; try with_reducible rfl)); simp only [Act.put, List.setIfInBounds_toArray, List.set_cons_zero, List.set_cons_succ])
    | (refine wpAnyHIn_take 2 (v := ?_) rfl (by kernel_rfl) (by kernel_rfl) (by kernel_rfl) (by decide +kernel) (fun _ _ _ h => h) (fun _ _ _ => trivial) (by rfl) (fun w' hSw => ?_) hS ?_; rotate_left 1; (focus (have z0 := hSw.1; have z1 := hSw.2.1; have z2 := hSw.2.2.1; have z3 := hSw.2.2.2.1; go_simp; try with_reducible rfl)); simp only [Act.put, List.setIfInBounds_toArray, List.set_cons_zero, List.set_cons_succ])
    | (refine wpAnyHIn_take 3 (v := ?_) rfl (by kernel_rfl) (by kernel_rfl) (by kernel_rfl) (by decide +kernel) (fun _ _ _ h => h) (fun _ _ _ => trivial) (by rfl) (fun w' hSw => ?_) hS ?_; rotate_left 1; (focus (have z0 := hSw.1; have z1 := hSw.2.1; have z2 := hSw.2.2.1; have z3 := hSw.2.2.2.1; go_simp; try with_reducible rfl)); simp only [Act.put, List.setIfInBounds_toArray, List.set_cons_zero, List.set_cons_succ])
    | (refine wpAnyHIn_take 5 (v := ?_) rfl (by kernel_rfl) (by kernel_rfl) (by kernel_rfl) (by decide +kernel) (fun _ _ _ h => h) (fun _ _ _ => trivial) (by rfl) (fun w' hSw => ?_) hS ?_; rotate_left 1; (focus (have z0 := hSw.1; have z1 := hSw.2.1; have z2 := hSw.2.2.1; have z3 := hSw.2.2.2.1; go_simp; try with_reducible rfl)); simp only [Act.put, List.setIfInBounds_toArray, List.set_cons_zero, List.set_cons_succ])
    | (refine wpAnyHIn_take 6 (v := ?_) rfl (by kernel_rfl) (by kernel_rfl) (by kernel_rfl) (by decide +kernel) (fun _ _ _ h => h) (fun _ _ _ => trivial) (by rfl) (fun w' hSw => ?_) hS ?_; rotate_left 1; (focus (have z0 := hSw.1; have z1 := hSw.2.1; have z2 := hSw.2.2.1; have z3 := hSw.2.2.2.1; go_simp; try with_reducible rfl)); simp only [Act.put, List.setIfInBounds_toArray, List.set_cons_zero, List.set_cons_succ])
    | (refine wpAnyHIn_take 7 (v := ?_) rfl (by kernel_rfl) (by kernel_rfl) (by kernel_rfl) (by decide +kernel) (fun _ _ _ h => h) (fun _ _ _ => trivial) (by rfl) (fun w' hSw => ?_) hS ?_; rotate_left 1; (focus (have z0 := hSw.1; have z1 := hSw.2.1; have z2 := hSw.2.2.1; have z3 := hSw.2.2.2.1; go_simp; try with_reducible rfl)); simp only [Act.put, List.setIfInBounds_toArray, List.set_cons_zero, List.set_cons_succ])
    | (refine wpAnyHIn_take 8 (v := ?_) rfl (by kernel_rfl) (by kernel_rfl) (by kernel_rfl) (by decide +kernel) (fun _ _ _ h => h) (fun _ _ _ => trivial) (by rfl) (fun w' hSw => ?_) hS ?_; rotate_left 1; (focus (have z0 := hSw.1; have z1 := hSw.2.1; have z2 := hSw.2.2.1; have z3 := hSw.2.2.2.1; go_simp; try with_reducible rfl)); simp only [Act.put, List.setIfInBounds_toArray, List.set_cons_zero, List.set_cons_succ]))
  refine wpAnyHIn_ready [4, 11] (by kernel_rfl) (by simp) ?_
  refine AllHIn.cons rfl (by rfl) (fun K hK => ?_) (AllHIn.cons rfl (by rfl) (fun K hK => ?_) (AllHIn.nil))
  · go_simp
    refine ⟨trivial, ?_⟩
    refine (callsIn_wide.2 (CP1.out _ hS.2.2.2.2)).mono ?_
    rintro e wX ⟨aX, kX, rfl, _, _, rdX, gX⟩
    have hS : wX.cell? ⟨w.heap.size, 0, none⟩ = some (.slice a n c) ∧ wX.cell? ⟨w.heap.size, 1, none⟩ = some (.slice a2 n d) ∧ wX.cell? ⟨w.heap.size + 1, 0, none⟩ = some (.slice b m c3) ∧ wX.cell? ⟨w.heap.size + 1, 1, none⟩ = some (.slice b2 m d3) ∧ Gr w wX := ⟨gX.cell hS.1, gX.cell hS.2.1, gX.cell hS.2.2.1, gX.cell hS.2.2.2.1, hS.2.2.2.2.trans gX⟩
    have BR := Lib.hid (BR.out.gr gX)
    have RX := Lib.hid rdX
    refine hK.out _ _ hS ?_
    clear hK K gX rdX
    refine wpAnyHIn_ready [9, 11] (by kernel_rfl) (by simp) ?_
    refine AllHIn.cons rfl (by rfl) (fun K hK => ?_) (AllHIn.cons rfl (by rfl) (fun K hK => ?_) (AllHIn.nil))
    · go_simp
      refine ⟨trivial, ?_⟩
      refine (callsIn_wide.2 (CP2.out _ hS.2.2.2.2)).mono ?_
      rintro e wY ⟨aY, kY, rfl, _, _, rdY, gX⟩
      have hS : wY.cell? ⟨w.heap.size, 0, none⟩ = some (.slice a n c) ∧ wY.cell? ⟨w.heap.size, 1, none⟩ = some (.slice a2 n d) ∧ wY.cell? ⟨w.heap.size + 1, 0, none⟩ = some (.slice b m c3) ∧ wY.cell? ⟨w.heap.size + 1, 1, none⟩ = some (.slice b2 m d3) ∧ Gr w wY := ⟨gX.cell hS.1, gX.cell hS.2.1, gX.cell hS.2.2.1, gX.cell hS.2.2.2.1, hS.2.2.2.2.trans gX⟩
      have BR := Lib.hid (BR.out.gr gX)
      have RY := Lib.hid rdY
      have RX := Lib.hid (RX.out.gr gX)
      refine hK.out _ _ hS ?_
      clear hK K gX rdY
      iterate 1 (first
        | (refine wpAnyHIn_take 10 (v := ?_) rfl (by kernel_rfl) (by kernel_rfl) (by kernel_rfl) (by decide +kernel) (fun _ _ _ h => h) (fun _ _ _ => trivial) (by rfl) (fun w' hSw => ?_) hS ?_; rotate_left 1; (focus (skip; go_simp; try with_reducible rfl)); simp only [Act.put, List.setIfInBounds_toArray, List.set_cons_zero, List.set_cons_succ]))
      refine wpAnyHIn_ready [11] (by kernel_rfl) (by simp) ?_
      refine AllHIn.cons rfl (by rfl) (fun K hK => ?_) (AllHIn.nil)
      go_simp
      have gX := (Gr.refl wY).alloc (.cells #[.slice none 0 0, .slice none 0 0] 24)
      obtain ⟨wa, hwa⟩ : ∃ wa, wY.alloc (.cells #[.slice none 0 0, .slice none 0 0] 24) = wa := ⟨_, rfl⟩
      have B6 := Lib.hid (show Box2v wa wY.heap.size (.slice none 0 0) (.slice none 0 0) by rw [← hwa]; exact Box2v.new rfl)
      have N6 : w.heap.size + 2 < wY.heap.size := World.block_lt_of_cell? wY _ BR.out.1
      rw [hwa] at gX ⊢
      have hS : wa.cell? ⟨w.heap.size, 0, none⟩ = some (.slice a n c) ∧ wa.cell? ⟨w.heap.size, 1, none⟩ = some (.slice a2 n d) ∧ wa.cell? ⟨w.heap.size + 1, 0, none⟩ = some (.slice b m c3) ∧ wa.cell? ⟨w.heap.size + 1, 1, none⟩ = some (.slice b2 m d3) ∧ Gr w wa := ⟨gX.cell hS.1, gX.cell hS.2.1, gX.cell hS.2.2.1, gX.cell hS.2.2.2.1, hS.2.2.2.2.trans gX⟩
      have BR := Lib.hid (BR.out.gr gX)
      have RX := Lib.hid (RX.out.gr gX)
      have RY := Lib.hid (RY.out.gr gX)
      refine hK.out _ _ hS ?_
      clear hK K gX hwa
      refine wpAnyHIn_ready [12] (by kernel_rfl) (by simp) ?_
      refine AllHIn.cons rfl (by rfl) (fun K hK => ?_) AllHIn.nil
      obtain ⟨k0, k1, k2, k3⟩ := B6.out
      have k5 := cell_by (k := 0) k1 (by omega) (Value.slice aX N kX)
      go_simp
      obtain ⟨WZ, hWZ⟩ : ∃ WZ, (wa.setCell ⟨wY.heap.size, 0, none⟩ (.slice aX N kX)).setCell ⟨wY.heap.size, 1, none⟩ (.slice aY N kY) = WZ := ⟨_, rfl⟩
      have hS : WZ.cell? ⟨w.heap.size, 0, none⟩ = some (.slice a n c) ∧ WZ.cell? ⟨w.heap.size, 1, none⟩ = some (.slice a2 n d) ∧ WZ.cell? ⟨w.heap.size + 1, 0, none⟩ = some (.slice b m c3) ∧ WZ.cell? ⟨w.heap.size + 1, 1, none⟩ = some (.slice b2 m d3) ∧ Gr w WZ := by rw [← hWZ]; exact ⟨cell_far (cell_far hS.1 (by omega) _) (by omega) _, cell_far (cell_far hS.2.1 (by omega) _) (by omega) _, cell_far (cell_far hS.2.2.1 (by omega) _) (by omega) _, cell_far (cell_far hS.2.2.2.1 (by omega) _) (by omega) _, (hS.2.2.2.2.setAt (by omega) _).setAt (by omega) _⟩
      have BZ := Lib.hid (show Box2v WZ (wY.heap.size) (.slice aX N kX) (.slice aY N kY) by rw [← hWZ]; exact Box2v.put B6.out _ _)
      have BR := Lib.hid (show Box2v WZ (w.heap.size + 2) (.slice none 0 0) (.slice none 0 0) by rw [← hWZ]; exact BR.out.far (by omega) _ _)
      have RX2 := Lib.hid (show RdI WZ aX N F by rw [← hWZ]; exact RX.out.put B6.out _ _)
      have RY2 := Lib.hid (show RdI WZ aY N G by rw [← hWZ]; exact RY.out.put B6.out _ _)
      simp only [hWZ]
      refine hK.out _ _ hS ?_
      clear hK K k0 k1 k2 k3 k5 hWZ
      refine wpAnyHIn_done (by kernel_rfl) ?_ _
      have C3 := Lib.hid (fun w' (k : Gr WZ w') => refValid_any aX aY N kX N kY F G w' (by omega) (by omega) (RX2.out.gr k) (RY2.out.gr k))
      rw [hx] at C3
      obtain ⟨z0, z1, _⟩ := BZ.out
      have GZ := Lib.hid hS.2.2.2.2
      clear hS
      go_wp2_with (go_at_call 15; (with_reducible refine (C3.out _ (by first | exact Gr.refl _ | exact (Gr.refl _).drew)).mono ?_); rintro e W5 ⟨rfl, g5⟩; have G5 := Lib.hid (GZ.out.trans g5); have BZ := Lib.hid (BZ.out.gr g5); have BR := Lib.hid (BR.out.gr g5); have RX2 := Lib.hid (RX2.out.gr g5); have RY2 := Lib.hid (RY2.out.gr g5); clear z0 z1; obtain ⟨z0, z1, _⟩ := BZ.out; obtain ⟨k0, k1, k2, k3⟩ := BR.out; clear g5)
      obtain ⟨y0, y1, _⟩ := BR.out.put (.slice aX N kX) (.slice aY N kY)
      refine bodyPost_ret (v := .tuple #[.agg #[.slice aX N kX, .slice aY N kY], .int .i64 0]) (by simp [results, Try.results31, go_sem, y0, y1]) rfl ⟨_, _, _, _, rfl, RX2.out.put BR.out _ _, RY2.out.put BR.out _ _, (G5.out.setAt (by omega) _).setAt (by omega) _⟩
    · go_simp
      have gX := (Gr.refl wX).alloc (.cells #[.slice none 0 0, .slice none 0 0] 24)
      obtain ⟨wa, hwa⟩ : ∃ wa, wX.alloc (.cells #[.slice none 0 0, .slice none 0 0] 24) = wa := ⟨_, rfl⟩
      have B6 := Lib.hid (show Box2v wa wX.heap.size (.slice none 0 0) (.slice none 0 0) by rw [← hwa]; exact Box2v.new rfl)
      have N6 : w.heap.size + 2 < wX.heap.size := World.block_lt_of_cell? wX _ BR.out.1
      rw [hwa] at gX ⊢
      have hS : wa.cell? ⟨w.heap.size, 0, none⟩ = some (.slice a n c) ∧ wa.cell? ⟨w.heap.size, 1, none⟩ = some (.slice a2 n d) ∧ wa.cell? ⟨w.heap.size + 1, 0, none⟩ = some (.slice b m c3) ∧ wa.cell? ⟨w.heap.size + 1, 1, none⟩ = some (.slice b2 m d3) ∧ Gr w wa := ⟨gX.cell hS.1, gX.cell hS.2.1, gX.cell hS.2.2.1, gX.cell hS.2.2.2.1, hS.2.2.2.2.trans gX⟩
      have BR := Lib.hid (BR.out.gr gX)
      have RX := Lib.hid (RX.out.gr gX)
      refine hK.out _ _ hS ?_
      clear hK K gX hwa
      refine wpAnyHIn_ready [9] (by kernel_rfl) (by simp) ?_
      refine AllHIn.cons rfl (by rfl) (fun K hK => ?_) (AllHIn.nil)
      go_simp
      refine ⟨trivial, ?_⟩
      refine (callsIn_wide.2 (CP2.out _ hS.2.2.2.2)).mono ?_
      rintro e wY ⟨aY, kY, rfl, _, _, rdY, gX⟩
      have hS : wY.cell? ⟨w.heap.size, 0, none⟩ = some (.slice a n c) ∧ wY.cell? ⟨w.heap.size, 1, none⟩ = some (.slice a2 n d) ∧ wY.cell? ⟨w.heap.size + 1, 0, none⟩ = some (.slice b m c3) ∧ wY.cell? ⟨w.heap.size + 1, 1, none⟩ = some (.slice b2 m d3) ∧ Gr w wY := ⟨gX.cell hS.1, gX.cell hS.2.1, gX.cell hS.2.2.1, gX.cell hS.2.2.2.1, hS.2.2.2.2.trans gX⟩
      have BR := Lib.hid (BR.out.gr gX)
      have RY := Lib.hid rdY
      have RX := Lib.hid (RX.out.gr gX)
      have B6 := Lib.hid (B6.out.gr gX)
      refine hK.out _ _ hS ?_
      clear hK K gX rdY
      iterate 1 (first
        | (refine wpAnyHIn_take 10 (v := ?_) rfl (by kernel_rfl) (by kernel_rfl) (by kernel_rfl) (by decide +kernel) (fun _ _ _ h => h) (fun _ _ _ => trivial) (by rfl) (fun w' hSw => ?_) hS ?_; rotate_left 1; (focus (skip; go_simp; try with_reducible rfl)); simp only [Act.put, List.setIfInBounds_toArray, List.set_cons_zero, List.set_cons_succ]))
      refine wpAnyHIn_ready [12] (by kernel_rfl) (by simp) ?_
      refine AllHIn.cons rfl (by rfl) (fun K hK => ?_) AllHIn.nil
      obtain ⟨k0, k1, k2, k3⟩ := B6.out
      have k5 := cell_by (k := 0) k1 (by omega) (Value.slice aX N kX)
      go_simp
      obtain ⟨WZ, hWZ⟩ : ∃ WZ, (wY.setCell ⟨wX.heap.size, 0, none⟩ (.slice aX N kX)).setCell ⟨wX.heap.size, 1, none⟩ (.slice aY N kY) = WZ := ⟨_, rfl⟩
      have hS : WZ.cell? ⟨w.heap.size, 0, none⟩ = some (.slice a n c) ∧ WZ.cell? ⟨w.heap.size, 1, none⟩ = some (.slice a2 n d) ∧ WZ.cell? ⟨w.heap.size + 1, 0, none⟩ = some (.slice b m c3) ∧ WZ.cell? ⟨w.heap.size + 1, 1, none⟩ = some (.slice b2 m d3) ∧ Gr w WZ := by rw [← hWZ]; exact ⟨cell_far (cell_far hS.1 (by omega) _) (by omega) _, cell_far (cell_far hS.2.1 (by omega) _) (by omega) _, cell_far (cell_far hS.2.2.1 (by omega) _) (by omega) _, cell_far (cell_far hS.2.2.2.1 (by omega) _) (by omega) _, (hS.2.2.2.2.setAt (by omega) _).setAt (by omega) _⟩
      have BZ := Lib.hid (show Box2v WZ (wX.heap.size) (.slice aX N kX) (.slice aY N kY) by rw [← hWZ]; exact Box2v.put B6.out _ _)
      have BR := Lib.hid (show Box2v WZ (w.heap.size + 2) (.slice none 0 0) (.slice none 0 0) by rw [← hWZ]; exact BR.out.far (by omega) _ _)
      have RX2 := Lib.hid (show RdI WZ aX N F by rw [← hWZ]; exact RX.out.put B6.out _ _)
      have RY2 := Lib.hid (show RdI WZ aY N G by rw [← hWZ]; exact RY.out.put B6.out _ _)
      simp only [hWZ]
      refine hK.out _ _ hS ?_
      clear hK K k0 k1 k2 k3 k5 hWZ
      refine wpAnyHIn_done (by kernel_rfl) ?_ _
      have C3 := Lib.hid (fun w' (k : Gr WZ w') => refValid_any aX aY N kX N kY F G w' (by omega) (by omega) (RX2.out.gr k) (RY2.out.gr k))
      rw [hx] at C3
      obtain ⟨z0, z1, _⟩ := BZ.out
      have GZ := Lib.hid hS.2.2.2.2
      clear hS
      go_wp2_with (go_at_call 15; (with_reducible refine (C3.out _ (by first | exact Gr.refl _ | exact (Gr.refl _).drew)).mono ?_); rintro e W5 ⟨rfl, g5⟩; have G5 := Lib.hid (GZ.out.trans g5); have BZ := Lib.hid (BZ.out.gr g5); have BR := Lib.hid (BR.out.gr g5); have RX2 := Lib.hid (RX2.out.gr g5); have RY2 := Lib.hid (RY2.out.gr g5); clear z0 z1; obtain ⟨z0, z1, _⟩ := BZ.out; obtain ⟨k0, k1, k2, k3⟩ := BR.out; clear g5)
      obtain ⟨y0, y1, _⟩ := BR.out.put (.slice aX N kX) (.slice aY N kY)
      refine bodyPost_ret (v := .tuple #[.agg #[.slice aX N kX, .slice aY N kY], .int .i64 0]) (by simp [results, Try.results31, go_sem, y0, y1]) rfl ⟨_, _, _, _, rfl, RX2.out.put BR.out _ _, RY2.out.put BR.out _ _, (G5.out.setAt (by omega) _).setAt (by omega) _⟩
  · go_simp
    have gX := (Gr.refl WD).alloc (.cells #[.slice none 0 0, .slice none 0 0] 24)
    obtain ⟨wa, hwa⟩ : ∃ wa, WD.alloc (.cells #[.slice none 0 0, .slice none 0 0] 24) = wa := ⟨_, rfl⟩
    have B6 := Lib.hid (show Box2v wa WD.heap.size (.slice none 0 0) (.slice none 0 0) by rw [← hwa]; exact Box2v.new rfl)
    have N6 : w.heap.size + 2 < WD.heap.size := World.block_lt_of_cell? WD _ BR.out.1
    rw [hwa] at gX ⊢
    have hS : wa.cell? ⟨w.heap.size, 0, none⟩ = some (.slice a n c) ∧ wa.cell? ⟨w.heap.size, 1, none⟩ = some (.slice a2 n d) ∧ wa.cell? ⟨w.heap.size + 1, 0, none⟩ = some (.slice b m c3) ∧ wa.cell? ⟨w.heap.size + 1, 1, none⟩ = some (.slice b2 m d3) ∧ Gr w wa := ⟨gX.cell hS.1, gX.cell hS.2.1, gX.cell hS.2.2.1, gX.cell hS.2.2.2.1, hS.2.2.2.2.trans gX⟩
    have BR := Lib.hid (BR.out.gr gX)
    refine hK.out _ _ hS ?_
    clear hK K gX hwa
    refine wpAnyHIn_ready [4] (by kernel_rfl) (by simp) ?_
    refine AllHIn.cons rfl (by rfl) (fun K hK => ?_) (AllHIn.nil)
    go_simp
    refine ⟨trivial, ?_⟩
    refine (callsIn_wide.2 (CP1.out _ hS.2.2.2.2)).mono ?_
    rintro e wX ⟨aX, kX, rfl, _, _, rdX, gX⟩
    have hS : wX.cell? ⟨w.heap.size, 0, none⟩ = some (.slice a n c) ∧ wX.cell? ⟨w.heap.size, 1, none⟩ = some (.slice a2 n d) ∧ wX.cell? ⟨w.heap.size + 1, 0, none⟩ = some (.slice b m c3) ∧ wX.cell? ⟨w.heap.size + 1, 1, none⟩ = some (.slice b2 m d3) ∧ Gr w wX := ⟨gX.cell hS.1, gX.cell hS.2.1, gX.cell hS.2.2.1, gX.cell hS.2.2.2.1, hS.2.2.2.2.trans gX⟩
    have BR := Lib.hid (BR.out.gr gX)
    have RX := Lib.hid rdX
    have B6 := Lib.hid (B6.out.gr gX)
    refine hK.out _ _ hS ?_
    clear hK K gX rdX
    refine wpAnyHIn_ready [9] (by kernel_rfl) (by simp) ?_
    refine AllHIn.cons rfl (by rfl) (fun K hK => ?_) (AllHIn.nil)
    go_simp
    refine ⟨trivial, ?_⟩
    refine (callsIn_wide.2 (CP2.out _ hS.2.2.2.2)).mono ?_
    rintro e wY ⟨aY, kY, rfl, _, _, rdY, gX⟩
    have hS : wY.cell? ⟨w.heap.size, 0, none⟩ = some (.slice a n c) ∧ wY.cell? ⟨w.heap.size, 1, none⟩ = some (.slice a2 n d) ∧ wY.cell? ⟨w.heap.size + 1, 0, none⟩ = some (.slice b m c3) ∧ wY.cell? ⟨w.heap.size + 1, 1, none⟩ = some (.slice b2 m d3) ∧ Gr w wY := ⟨gX.cell hS.1, gX.cell hS.2.1, gX.cell hS.2.2.1, gX.cell hS.2.2.2.1, hS.2.2.2.2.trans gX⟩
    have BR := Lib.hid (BR.out.gr gX)
    have RY := Lib.hid rdY
    have RX := Lib.hid (RX.out.gr gX)
    have B6 := Lib.hid (B6.out.gr gX)
    refine hK.out _ _ hS ?_
    clear hK K gX rdY
    iterate 1 (first
      | (refine wpAnyHIn_take 10 (v := ?_) rfl (by kernel_rfl) (by kernel_rfl) (by kernel_rfl) (by decide +kernel) (fun _ _ _ h => h) (fun _ _ _ => trivial) (by rfl) (fun w' hSw => ?_) hS ?_; rotate_left 1; (focus (skip; go_simp; try with_reducible rfl)); simp only [Act.put, List.setIfInBounds_toArray, List.set_cons_zero, List.set_cons_succ]))
    refine wpAnyHIn_ready [12] (by kernel_rfl) (by simp) ?_
    refine AllHIn.cons rfl (by rfl) (fun K hK => ?_) AllHIn.nil
    obtain ⟨k0, k1, k2, k3⟩ := B6.out
    have k5 := cell_by (k := 0) k1 (by omega) (Value.slice aX N kX)
    go_simp
    obtain ⟨WZ, hWZ⟩ : ∃ WZ, (wY.setCell ⟨WD.heap.size, 0, none⟩ (.slice aX N kX)).setCell ⟨WD.heap.size, 1, none⟩ (.slice aY N kY) = WZ := ⟨_, rfl⟩
    have hS : WZ.cell? ⟨w.heap.size, 0, none⟩ = some (.slice a n c) ∧ WZ.cell? ⟨w.heap.size, 1, none⟩ = some (.slice a2 n d) ∧ WZ.cell? ⟨w.heap.size + 1, 0, none⟩ = some (.slice b m c3) ∧ WZ.cell? ⟨w.heap.size + 1, 1, none⟩ = some (.slice b2 m d3) ∧ Gr w WZ := by rw [← hWZ]; exact ⟨cell_far (cell_far hS.1 (by omega) _) (by omega) _, cell_far (cell_far hS.2.1 (by omega) _) (by omega) _, cell_far (cell_far hS.2.2.1 (by omega) _) (by omega) _, cell_far (cell_far hS.2.2.2.1 (by omega) _) (by omega) _, (hS.2.2.2.2.setAt (by omega) _).setAt (by omega) _⟩
    have BZ := Lib.hid (show Box2v WZ (WD.heap.size) (.slice aX N kX) (.slice aY N kY) by rw [← hWZ]; exact Box2v.put B6.out _ _)
    have BR := Lib.hid (show Box2v WZ (w.heap.size + 2) (.slice none 0 0) (.slice none 0 0) by rw [← hWZ]; exact BR.out.far (by omega) _ _)
    have RX2 := Lib.hid (show RdI WZ aX N F by rw [← hWZ]; exact RX.out.put B6.out _ _)
    have RY2 := Lib.hid (show RdI WZ aY N G by rw [← hWZ]; exact RY.out.put B6.out _ _)
    simp only [hWZ]
    refine hK.out _ _ hS ?_
    clear hK K k0 k1 k2 k3 k5 hWZ
    refine wpAnyHIn_done (by kernel_rfl) ?_ _
    have C3 := Lib.hid (fun w' (k : Gr WZ w') => refValid_any aX aY N kX N kY F G w' (by omega) (by omega) (RX2.out.gr k) (RY2.out.gr k))
    rw [hx] at C3
    obtain ⟨z0, z1, _⟩ := BZ.out
    have GZ := Lib.hid hS.2.2.2.2
    clear hS
    go_wp2_with (go_at_call 15; (with_reducible refine (C3.out _ (by first | exact Gr.refl _ | exact (Gr.refl _).drew)).mono ?_); rintro e W5 ⟨rfl, g5⟩; have G5 := Lib.hid (GZ.out.trans g5); have BZ := Lib.hid (BZ.out.gr g5); have BR := Lib.hid (BR.out.gr g5); have RX2 := Lib.hid (RX2.out.gr g5); have RY2 := Lib.hid (RY2.out.gr g5); clear z0 z1; obtain ⟨z0, z1, _⟩ := BZ.out; obtain ⟨k0, k1, k2, k3⟩ := BR.out; clear g5)
    obtain ⟨y0, y1, _⟩ := BR.out.put (.slice aX N kX) (.slice aY N kY)
    refine bodyPost_ret (v := .tuple #[.agg #[.slice aX N kX, .slice aY N kY], .int .i64 0]) (by simp [results, Try.results31, go_sem, y0, y1]) rfl ⟨_, _, _, _, rfl, RX2.out.put BR.out _ _, RY2.out.put BR.out _ _, (G5.out.setAt (by omega) _).setAt (by omega) _⟩

set_option maxHeartbeats 8000000 in
set_option maxRecDepth 100000 in
theorem refBoth_none (a a2 b b2 : Option Addr) (n c d m c3 d3 : Nat) (f g u v : Nat → Int) (w : World) (hr : RdI w a n f) (hs : RdI w a2 n g) (ht : RdI w b m u) (hu : RdI w b2 m v) (hv : VO n n f g) (hv2 : VO m m u v) (hx : vO (n * m) (n * m) (pdQ f u n m) (pdQ g v n m) = false) :
    Calls Try.prog 31 #[.agg #[.slice a n c, .slice a2 n d], .agg #[.slice b m c3, .slice b2 m d3]] w (RetD 0 0 (fun _ => 0) (fun _ => 0) 5 w) := by
  have n10 := hv.noise.few
  have m10 := hv2.noise.few
  have n1 := hv.noise.one
  have m1 := hv2.noise.one
  obtain ⟨W0, hW0⟩ : ∃ W0, ((w.alloc (.cells #[.slice a n c, .slice a2 n d] 24)).alloc (.cells #[.slice b m c3, .slice b2 m d3] 24)).alloc (.cells #[.slice none 0 0, .slice none 0 0] 24) = W0 := ⟨_, rfl⟩
  have G0 := Lib.hid (show Gr w W0 by rw [← hW0]; exact (((Gr.refl w).alloc _).alloc _).alloc _)
  have BA := Lib.hid (show BoxO W0 w.heap.size (.slice a n c) (.slice a2 n d) by rw [← hW0]; exact (BoxO.new rfl).gr (((Gr.refl _).alloc _).alloc _))
  have BB := Lib.hid (show BoxO W0 (w.heap.size + 1) (.slice b m c3) (.slice b2 m d3) by rw [← hW0]; exact (BoxO.new (by simp)).gr ((Gr.refl _).alloc _))
  have BR := Lib.hid (show Box2v W0 (w.heap.size + 2) (.slice none 0 0) (.slice none 0 0) by rw [← hW0]; exact Box2v.new (by simp))
  obtain ⟨p0, p1⟩ := BA.out
  obtain ⟨s0, s1⟩ := BB.out
  have C1 := Lib.hid (fun w' (k : Gr w w') => refValid_any a a2 n c n d f g w' (by omega) (by omega) (hr.gr k) (hs.gr k))
  rw [vO_iff.2 hv] at C1
  have C2 := Lib.hid (fun w' (k : Gr w w') => refValid_any b b2 m c3 m d3 u v w' (by omega) (by omega) (ht.gr k) (hu.gr k))
  rw [vO_iff.2 hv2] at C2
  have CP1 := Lib.hid (fun w' (k : Gr w w') => refproducts_any a b n c m c3 f u w' hv.noise hv2.noise (hr.gr k) (ht.gr k))
  have CP2 := Lib.hid (fun w' (k : Gr w w') => refproducts_any a2 b2 n d m d3 g v w' hv.signal hv2.signal (hs.gr k) (hu.gr k))
  have N100 : n * m ≤ 100 := Nat.mul_le_mul n10 m10
  have q1 : wrap64 ((n : Int) * (m : Int)) = ((n * m : Nat) : Int) := by rw [← Int.natCast_mul]; exact IntWalk.wrap64_in _ (by omega)
  have q2 : IntKind.i64.wrap ((n : Int) * (m : Int)) = ((n * m : Nat) : Int) := by rw [← Int.natCast_mul]; exact IntWalk.i64_in _ (by omega)
  clear hr hs ht hu hv hv2
  generalize pdQ f u n m = F at *
  generalize pdQ g v n m = G at *
  generalize n * m = N at *
  by_cases NL : 10 < N
  · have NL2 : ((N : Nat) : Int) > 10 := by omega
    go_enter Try.func31, Try.ntmps31
    go_wp2_with (first
      | (go_at_call 15; (with_reducible refine (C1.out _ G0.out).mono ?_); rintro e W1 ⟨rfl, g1⟩; have G1 := Lib.hid (G0.out.trans g1); have BA := Lib.hid (BA.out.gr g1); have BB := Lib.hid (BB.out.gr g1); have BR := Lib.hid (BR.out.gr g1); clear p0 p1 s0 s1; obtain ⟨p0, p1⟩ := BA.out; obtain ⟨s0, s1⟩ := BB.out; clear g1)
      | (go_at_call 15; (with_reducible refine (C2.out _ G1.out).mono ?_); rintro e W2 ⟨rfl, g2⟩; have G2 := Lib.hid (G1.out.trans g2); have BA := Lib.hid (BA.out.gr g2); have BB := Lib.hid (BB.out.gr g2); have BR := Lib.hid (BR.out.gr g2); clear p0 p1 s0 s1; obtain ⟨p0, p1⟩ := BA.out; obtain ⟨s0, s1⟩ := BB.out; clear g2; obtain ⟨k0, k1, k2, k3⟩ := BR.out))
    obtain ⟨z0, z1, _⟩ := BR.out.put (.slice none 0 0) (.slice none 0 0)
    refine bodyPost_ret (v := .tuple #[.agg #[.slice none 0 0, .slice none 0 0], .int .i64 5]) (by simp [results, Try.results31, go_sem, z0, z1]) rfl (RetD.no 5 ?_)
    repeat (first | exact G2.out | refine Gr.setCell ?_ (by simp; omega) _ | refine Gr.setCell ?_ (by simp) _ | refine Gr.alloc ?_ _ | refine Gr.drewN ?_ _ | refine Gr.drew ?_)
  · have NL2 : ¬ ((N : Nat) : Int) > 10 := by omega
    go_enter Try.func31, Try.ntmps31
    go_wp2_with (first
      | (go_at_call 15; (with_reducible refine (C1.out _ G0.out).mono ?_); rintro e W1 ⟨rfl, g1⟩; have G1 := Lib.hid (G0.out.trans g1); have BA := Lib.hid (BA.out.gr g1); have BB := Lib.hid (BB.out.gr g1); have BR := Lib.hid (BR.out.gr g1); clear p0 p1 s0 s1; obtain ⟨p0, p1⟩ := BA.out; obtain ⟨s0, s1⟩ := BB.out; clear g1)
      | (go_at_call 15; (with_reducible refine (C2.out _ G1.out).mono ?_); rintro e W2 ⟨rfl, g2⟩; have G2 := Lib.hid (G1.out.trans g2); have BA := Lib.hid (BA.out.gr g2); have BB := Lib.hid (BB.out.gr g2); have BR := Lib.hid (BR.out.gr g2); clear p0 p1 s0 s1; obtain ⟨p0, p1⟩ := BA.out; obtain ⟨s0, s1⟩ := BB.out; clear g2))
    refine (wpIn_wide (n := 3)).1 ?_
    refine wpIn_region_held (fun w' => w'.cell? ⟨w.heap.size, 0, none⟩ = some (.slice a n c) ∧ w'.cell? ⟨w.heap.size, 1, none⟩ = some (.slice a2 n d) ∧ w'.cell? ⟨w.heap.size + 1, 0, none⟩ = some (.slice b m c3) ∧ w'.cell? ⟨w.heap.size + 1, 1, none⟩ = some (.slice b2 m d3) ∧ Gr w w') 13 (by kernel_rfl) rfl rfl ?_
    have hS : W2.drew.cell? ⟨w.heap.size, 0, none⟩ = some (.slice a n c) ∧ W2.drew.cell? ⟨w.heap.size, 1, none⟩ = some (.slice a2 n d) ∧ W2.drew.cell? ⟨w.heap.size + 1, 0, none⟩ = some (.slice b m c3) ∧ W2.drew.cell? ⟨w.heap.size + 1, 1, none⟩ = some (.slice b2 m d3) ∧ Gr w W2.drew := ⟨p0, p1, s0, s1, G2.out.drew⟩
    have BR := Lib.hid (BR.out.gr ((Gr.refl _).drew))
    obtain ⟨WD, hWD⟩ : ∃ WD, W2.drew = WD := ⟨_, rfl⟩
    rw [hWD] at hS BR ⊢
    clear hWD
    iterate 8 (first
      | (refine wpAnyHIn_take 0 (v := ?_) rfl (by kernel_rfl) (by kernel_rfl) (by kernel_rfl) (by decide +kernel) (fun _ _ _ h => h) (fun _ _ _ => trivial) (by rfl) (fun w' hSw => ?_) hS ?_; rotate_left 1; (focus (have z0 := hSw.1; have z1 := hSw.2.1; have z2 := hSw.2.2.1; have z3 := hSw.2.2.2.1; go_simp; try with_reducible rfl)); simp only [Act.put, List.setIfInBounds_toArray, List.set_cons_zero, List.set_cons_succ])
      | (refine wpAnyHIn_take 1 (v := ?_) rfl (by kernel_rfl) (by kernel_rfl) (by kernel_rfl) (by decide +kernel) (fun _ _ _ h => h) (fun _ _ _ => trivial) (by rfl) (fun w' hSw => ?_) hS ?_; rotate_left 1; (focus (have z0 := hSw.1; have z1 := hSw.2.1; have z2 := hSw.2.2.1; have z3 := hSw.2.2.2.1; go_simp; try with_reducible rfl)); simp only [Act.put, List.setIfInBounds_toArray, List.set_cons_zero, List.set_cons_succ])
      | (refine wpAnyHIn_take 2 (v := ?_) rfl (by kernel_rfl) (by kernel_rfl) (by kernel_rfl) (by decide +kernel) (fun _ _ _ h => h) (fun _ _ _ => trivial) (by rfl) (fun w' hSw => ?_) hS ?_; rotate_left 1; (focus (have z0 := hSw.1; have z1 := hSw.2.1; have z2 := hSw.2.2.1; have z3 := hSw.2.2.2.1; go_simp; try with_reducible rfl)); simp only [Act.put, List.setIfInBounds_toArray, List.set_cons_zero, List.set_cons_succ])
      | (refine wpAnyHIn_take 3 (v := ?_) rfl (by kernel_rfl) (by kernel_rfl) (by kernel_rfl) (by decide +kernel) (fun _ _ _ h => h) (fun _ _ _ => trivial) (by rfl) (fun w' hSw => ?_) hS ?_; rotate_left 1; (focus (have z0 := hSw.1; have z1 := hSw.2.1; have z2 := hSw.2.2.1; have z3 := hSw.2.2.2.1; go_simp; try with_reducible rfl)); simp only [Act.put, List.setIfInBounds_toArray, List.set_cons_zero, List.set_cons_succ])
      | (refine wpAnyHIn_take 5 (v := ?_) rfl (by kernel_rfl) (by kernel_rfl) (by kernel_rfl) (by decide +kernel) (fun _ _ _ h => h) (fun _ _ _ => trivial) (by rfl) (fun w' hSw => ?_) hS ?_; rotate_left 1; (focus (have z0 := hSw.1; have z1 := hSw.2.1; have z2 := hSw.2.2.1; have z3 := hSw.2.2.2.1; go_simp; try with_reducible rfl)); simp only [Act.put, List.setIfInBounds_toArray, List.set_cons_zero, List.set_cons_succ])
      | (refine wpAnyHIn_take 6 (v := ?_) rfl (by kernel_rfl) (by kernel_rfl) (by kernel_rfl) (by decide +kernel) (fun _ _ _ h => h) (fun _ _ _ => trivial) (by rfl) (fun w' hSw => ?_) hS ?_; rotate_left 1; (focus (have z0 := hSw.1; have z1 := hSw.2.1; have z2 := hSw.2.2.1; have z3 := hSw.2.2.2.1; go_simp; try with_reducible rfl)); simp only [Act.put, List.setIfInBounds_toArray, List.set_cons_zero, List.set_cons_succ])
      | (refine wpAnyHIn_take 7 (v := ?_) rfl (by kernel_rfl) (by kernel_rfl) (by kernel_rfl) (by decide +kernel) (fun _ _ _ h => h) (fun _ _ _ => trivial) (by rfl) (fun w' hSw => ?_) hS ?_; rotate_left 1; (focus (have z0 := hSw.1; have z1 := hSw.2.1; have z2 := hSw.2.2.1; have z3 := hSw.2.2.2.1; go_simp; try with_reducible rfl)); simp only [Act.put, List.setIfInBounds_toArray, List.set_cons_zero, List.set_cons_succ])
      | (refine wpAnyHIn_take 8 (v := ?_) rfl (by kernel_rfl) (by kernel_rfl) (by kernel_rfl) (by decide +kernel) (fun _ _ _ h => h) (fun _ _ _ => trivial) (by rfl) (fun w' hSw => ?_) hS ?_; rotate_left 1; (focus (have z0 := hSw.1; have z1 := hSw.2.1; have z2 := hSw.2.2.1; have z3 := hSw.2.2.2.1; go_simp; try with_reducible rfl)); simp only [Act.put, List.setIfInBounds_toArray, List.set_cons_zero, List.set_cons_succ]))
    refine wpAnyHIn_ready [4, 11] (by kernel_rfl) (by simp) ?_
    refine AllHIn.cons rfl (by rfl) (fun K hK => ?_) (AllHIn.cons rfl (by rfl) (fun K hK => ?_) (AllHIn.nil))
    · go_simp
      refine ⟨trivial, ?_⟩
      refine (callsIn_wide.2 (CP1.out _ hS.2.2.2.2)).mono ?_
      rintro e wX ⟨aX, kX, rfl, _, _, rdX, gX⟩
      have hS : wX.cell? ⟨w.heap.size, 0, none⟩ = some (.slice a n c) ∧ wX.cell? ⟨w.heap.size, 1, none⟩ = some (.slice a2 n d) ∧ wX.cell? ⟨w.heap.size + 1, 0, none⟩ = some (.slice b m c3) ∧ wX.cell? ⟨w.heap.size + 1, 1, none⟩ = some (.slice b2 m d3) ∧ Gr w wX := ⟨gX.cell hS.1, gX.cell hS.2.1, gX.cell hS.2.2.1, gX.cell hS.2.2.2.1, hS.2.2.2.2.trans gX⟩
      have BR := Lib.hid (BR.out.gr gX)
      have RX := Lib.hid rdX
      refine hK.out _ _ hS ?_
      clear hK K gX rdX
      refine wpAnyHIn_ready [9, 11] (by kernel_rfl) (by simp) ?_
      refine AllHIn.cons rfl (by rfl) (fun K hK => ?_) (AllHIn.cons rfl (by rfl) (fun K hK => ?_) (AllHIn.nil))
      · go_simp
        refine ⟨trivial, ?_⟩
        refine (callsIn_wide.2 (CP2.out _ hS.2.2.2.2)).mono ?_
        rintro e wY ⟨aY, kY, rfl, _, _, rdY, gX⟩
        have hS : wY.cell? ⟨w.heap.size, 0, none⟩ = some (.slice a n c) ∧ wY.cell? ⟨w.heap.size, 1, none⟩ = some (.slice a2 n d) ∧ wY.cell? ⟨w.heap.size + 1, 0, none⟩ = some (.slice b m c3) ∧ wY.cell? ⟨w.heap.size + 1, 1, none⟩ = some (.slice b2 m d3) ∧ Gr w wY := ⟨gX.cell hS.1, gX.cell hS.2.1, gX.cell hS.2.2.1, gX.cell hS.2.2.2.1, hS.2.2.2.2.trans gX⟩
        have BR := Lib.hid (BR.out.gr gX)
        have RY := Lib.hid rdY
        have RX := Lib.hid (RX.out.gr gX)
        refine hK.out _ _ hS ?_
        clear hK K gX rdY
        iterate 1 (first
          | (refine wpAnyHIn_take 10 (v := ?_) rfl (by kernel_rfl) (by kernel_rfl) (by kernel_rfl) (by decide +kernel) (fun _ _ _ h => h) (fun _ _ _ => trivial) (by rfl) (fun w' hSw => ?_) hS ?_; rotate_left 1; (focus (skip; go_simp; try with_reducible rfl)); simp only [Act.put, List.setIfInBounds_toArray, List.set_cons_zero, List.set_cons_succ]))
        refine wpAnyHIn_ready [11] (by kernel_rfl) (by simp) ?_
        refine AllHIn.cons rfl (by rfl) (fun K hK => ?_) (AllHIn.nil)
        go_simp
        have gX := (Gr.refl wY).alloc (.cells #[.slice none 0 0, .slice none 0 0] 24)
        obtain ⟨wa, hwa⟩ : ∃ wa, wY.alloc (.cells #[.slice none 0 0, .slice none 0 0] 24) = wa := ⟨_, rfl⟩
        have B6 := Lib.hid (show Box2v wa wY.heap.size (.slice none 0 0) (.slice none 0 0) by rw [← hwa]; exact Box2v.new rfl)
        have N6 : w.heap.size + 2 < wY.heap.size := World.block_lt_of_cell? wY _ BR.out.1
        rw [hwa] at gX ⊢
        have hS : wa.cell? ⟨w.heap.size, 0, none⟩ = some (.slice a n c) ∧ wa.cell? ⟨w.heap.size, 1, none⟩ = some (.slice a2 n d) ∧ wa.cell? ⟨w.heap.size + 1, 0, none⟩ = some (.slice b m c3) ∧ wa.cell? ⟨w.heap.size + 1, 1, none⟩ = some (.slice b2 m d3) ∧ Gr w wa := ⟨gX.cell hS.1, gX.cell hS.2.1, gX.cell hS.2.2.1, gX.cell hS.2.2.2.1, hS.2.2.2.2.trans gX⟩
        have BR := Lib.hid (BR.out.gr gX)
        have RX := Lib.hid (RX.out.gr gX)
        have RY := Lib.hid (RY.out.gr gX)
        refine hK.out _ _ hS ?_
        clear hK K gX hwa
        refine wpAnyHIn_ready [12] (by kernel_rfl) (by simp) ?_
        refine AllHIn.cons rfl (by rfl) (fun K hK => ?_) AllHIn.nil
        obtain ⟨k0, k1, k2, k3⟩ := B6.out
        have k5 := cell_by (k := 0) k1 (by omega) (Value.slice aX N kX)
        go_simp
        obtain ⟨WZ, hWZ⟩ : ∃ WZ, (wa.setCell ⟨wY.heap.size, 0, none⟩ (.slice aX N kX)).setCell ⟨wY.heap.size, 1, none⟩ (.slice aY N kY) = WZ := ⟨_, rfl⟩
        have hS : WZ.cell? ⟨w.heap.size, 0, none⟩ = some (.slice a n c) ∧ WZ.cell? ⟨w.heap.size, 1, none⟩ = some (.slice a2 n d) ∧ WZ.cell? ⟨w.heap.size + 1, 0, none⟩ = some (.slice b m c3) ∧ WZ.cell? ⟨w.heap.size + 1, 1, none⟩ = some (.slice b2 m d3) ∧ Gr w WZ := by rw [← hWZ]; exact ⟨cell_far (cell_far hS.1 (by omega) _) (by omega) _, cell_far (cell_far hS.2.1 (by omega) _) (by omega) _, cell_far (cell_far hS.2.2.1 (by omega) _) (by omega) _, cell_far (cell_far hS.2.2.2.1 (by omega) _) (by omega) _, (hS.2.2.2.2.setAt (by omega) _).setAt (by omega) _⟩
        have BZ := Lib.hid (show Box2v WZ (wY.heap.size) (.slice aX N kX) (.slice aY N kY) by rw [← hWZ]; exact Box2v.put B6.out _ _)
        have BR := Lib.hid (show Box2v WZ (w.heap.size + 2) (.slice none 0 0) (.slice none 0 0) by rw [← hWZ]; exact BR.out.far (by omega) _ _)
        have RX2 := Lib.hid (show RdI WZ aX N F by rw [← hWZ]; exact RX.out.put B6.out _ _)
        have RY2 := Lib.hid (show RdI WZ aY N G by rw [← hWZ]; exact RY.out.put B6.out _ _)
        simp only [hWZ]
        refine hK.out _ _ hS ?_
        clear hK K k0 k1 k2 k3 k5 hWZ
        refine wpAnyHIn_done (by kernel_rfl) ?_ _
        have C3 := Lib.hid (fun w' (k : Gr WZ w') => refValid_any aX aY N kX N kY F G w' (by omega) (by omega) (RX2.out.gr k) (RY2.out.gr k))
        rw [hx] at C3
        obtain ⟨z0, z1, _⟩ := BZ.out
        have GZ := Lib.hid hS.2.2.2.2
        clear hS
        go_wp2_with (go_at_call 15; (with_reducible refine (C3.out _ (by first | exact Gr.refl _ | exact (Gr.refl _).drew)).mono ?_); rintro e W5 ⟨rfl, g5⟩; have G5 := Lib.hid (GZ.out.trans g5); have BZ := Lib.hid (BZ.out.gr g5); have BR := Lib.hid (BR.out.gr g5); have RX2 := Lib.hid (RX2.out.gr g5); have RY2 := Lib.hid (RY2.out.gr g5); clear z0 z1; obtain ⟨z0, z1, _⟩ := BZ.out; obtain ⟨k0, k1, k2, k3⟩ := BR.out; clear g5)
        obtain ⟨y0, y1, _⟩ := BR.out.put (.slice none 0 0) (.slice none 0 0)
        refine bodyPost_ret (v := .tuple #[.agg #[.slice none 0 0, .slice none 0 0], .int .i64 5]) (by simp [results, Try.results31, go_sem, y0, y1]) rfl (RetD.no 5 ((G5.out.setAt (by omega) _).setAt (by omega) _))
      · go_simp
        have gX := (Gr.refl wX).alloc (.cells #[.slice none 0 0, .slice none 0 0] 24)
        obtain ⟨wa, hwa⟩ : ∃ wa, wX.alloc (.cells #[.slice none 0 0, .slice none 0 0] 24) = wa := ⟨_, rfl⟩
        have B6 := Lib.hid (show Box2v wa wX.heap.size (.slice none 0 0) (.slice none 0 0) by rw [← hwa]; exact Box2v.new rfl)
        have N6 : w.heap.size + 2 < wX.heap.size := World.block_lt_of_cell? wX _ BR.out.1
        rw [hwa] at gX ⊢
        have hS : wa.cell? ⟨w.heap.size, 0, none⟩ = some (.slice a n c) ∧ wa.cell? ⟨w.heap.size, 1, none⟩ = some (.slice a2 n d) ∧ wa.cell? ⟨w.heap.size + 1, 0, none⟩ = some (.slice b m c3) ∧ wa.cell? ⟨w.heap.size + 1, 1, none⟩ = some (.slice b2 m d3) ∧ Gr w wa := ⟨gX.cell hS.1, gX.cell hS.2.1, gX.cell hS.2.2.1, gX.cell hS.2.2.2.1, hS.2.2.2.2.trans gX⟩
        have BR := Lib.hid (BR.out.gr gX)
        have RX := Lib.hid (RX.out.gr gX)
        refine hK.out _ _ hS ?_
        clear hK K gX hwa
        refine wpAnyHIn_ready [9] (by kernel_rfl) (by simp) ?_
        refine AllHIn.cons rfl (by rfl) (fun K hK => ?_) (AllHIn.nil)
        go_simp
        refine ⟨trivial, ?_⟩
        refine (callsIn_wide.2 (CP2.out _ hS.2.2.2.2)).mono ?_
        rintro e wY ⟨aY, kY, rfl, _, _, rdY, gX⟩
        have hS : wY.cell? ⟨w.heap.size, 0, none⟩ = some (.slice a n c) ∧ wY.cell? ⟨w.heap.size, 1, none⟩ = some (.slice a2 n d) ∧ wY.cell? ⟨w.heap.size + 1, 0, none⟩ = some (.slice b m c3) ∧ wY.cell? ⟨w.heap.size + 1, 1, none⟩ = some (.slice b2 m d3) ∧ Gr w wY := ⟨gX.cell hS.1, gX.cell hS.2.1, gX.cell hS.2.2.1, gX.cell hS.2.2.2.1, hS.2.2.2.2.trans gX⟩
        have BR := Lib.hid (BR.out.gr gX)
        have RY := Lib.hid rdY
        have RX := Lib.hid (RX.out.gr gX)
        have B6 := Lib.hid (B6.out.gr gX)
        refine hK.out _ _ hS ?_
        clear hK K gX rdY
        iterate 1 (first
          | (refine wpAnyHIn_take 10 (v := ?_) rfl (by kernel_rfl) (by kernel_rfl) (by kernel_rfl) (by decide +kernel) (fun _ _ _ h => h) (fun _ _ _ => trivial) (by rfl) (fun w' hSw => ?_) hS ?_; rotate_left 1; (focus (skip; go_simp; try with_reducible rfl)); simp only [Act.put, List.setIfInBounds_toArray, List.set_cons_zero, List.set_cons_succ]))
        refine wpAnyHIn_ready [12] (by kernel_rfl) (by simp) ?_
        refine AllHIn.cons rfl (by rfl) (fun K hK => ?_) AllHIn.nil
        obtain ⟨k0, k1, k2, k3⟩ := B6.out
        have k5 := cell_by (k := 0) k1 (by omega) (Value.slice aX N kX)
        go_simp
        obtain ⟨WZ, hWZ⟩ : ∃ WZ, (wY.setCell ⟨wX.heap.size, 0, none⟩ (.slice aX N kX)).setCell ⟨wX.heap.size, 1, none⟩ (.slice aY N kY) = WZ := ⟨_, rfl⟩
        have hS : WZ.cell? ⟨w.heap.size, 0, none⟩ = some (.slice a n c) ∧ WZ.cell? ⟨w.heap.size, 1, none⟩ = some (.slice a2 n d) ∧ WZ.cell? ⟨w.heap.size + 1, 0, none⟩ = some (.slice b m c3) ∧ WZ.cell? ⟨w.heap.size + 1, 1, none⟩ = some (.slice b2 m d3) ∧ Gr w WZ := by rw [← hWZ]; exact ⟨cell_far (cell_far hS.1 (by omega) _) (by omega) _, cell_far (cell_far hS.2.1 (by omega) _) (by omega) _, cell_far (cell_far hS.2.2.1 (by omega) _) (by omega) _, cell_far (cell_far hS.2.2.2.1 (by omega) _) (by omega) _, (hS.2.2.2.2.setAt (by omega) _).setAt (by omega) _⟩
        have BZ := Lib.hid (show Box2v WZ (wX.heap.size) (.slice aX N kX) (.slice aY N kY) by rw [← hWZ]; exact Box2v.put B6.out _ _)
        have BR := Lib.hid (show Box2v WZ (w.heap.size + 2) (.slice none 0 0) (.slice none 0 0) by rw [← hWZ]; exact BR.out.far (by omega) _ _)
        have RX2 := Lib.hid (show RdI WZ aX N F by rw [← hWZ]; exact RX.out.put B6.out _ _)
        have RY2 := Lib.hid (show RdI WZ aY N G by rw [← hWZ]; exact RY.out.put B6.out _ _)
        simp only [hWZ]
        refine hK.out _ _ hS ?_
        clear hK K k0 k1 k2 k3 k5 hWZ
        refine wpAnyHIn_done (by kernel_rfl) ?_ _
        have C3 := Lib.hid (fun w' (k : Gr WZ w') => refValid_any aX aY N kX N kY F G w' (by omega) (by omega) (RX2.out.gr k) (RY2.out.gr k))
        rw [hx] at C3
        obtain ⟨z0, z1, _⟩ := BZ.out
        have GZ := Lib.hid hS.2.2.2.2
        clear hS
        go_wp2_with (go_at_call 15; (with_reducible refine (C3.out _ (by first | exact Gr.refl _ | exact (Gr.refl _).drew)).mono ?_); rintro e W5 ⟨rfl, g5⟩; have G5 := Lib.hid (GZ.out.trans g5); have BZ := Lib.hid (BZ.out.gr g5); have BR := Lib.hid (BR.out.gr g5); have RX2 := Lib.hid (RX2.out.gr g5); have RY2 := Lib.hid (RY2.out.gr g5); clear z0 z1; obtain ⟨z0, z1, _⟩ := BZ.out; obtain ⟨k0, k1, k2, k3⟩ := BR.out; clear g5)
        obtain ⟨y0, y1, _⟩ := BR.out.put (.slice none 0 0) (.slice none 0 0)
        refine bodyPost_ret (v := .tuple #[.agg #[.slice none 0 0, .slice none 0 0], .int .i64 5]) (by simp [results, Try.results31, go_sem, y0, y1]) rfl (RetD.no 5 ((G5.out.setAt (by omega) _).setAt (by omega) _))
    · go_simp
      have gX := (Gr.refl WD).alloc (.cells #[.slice none 0 0, .slice none 0 0] 24)
      obtain ⟨wa, hwa⟩ : ∃ wa, WD.alloc (.cells #[.slice none 0 0, .slice none 0 0] 24) = wa := ⟨_, rfl⟩
      have B6 := Lib.hid (show Box2v wa WD.heap.size (.slice none 0 0) (.slice none 0 0) by rw [← hwa]; exact Box2v.new rfl)
      have N6 : w.heap.size + 2 < WD.heap.size := World.block_lt_of_cell? WD _ BR.out.1
      rw [hwa] at gX ⊢
      have hS : wa.cell? ⟨w.heap.size, 0, none⟩ = some (.slice a n c) ∧ wa.cell? ⟨w.heap.size, 1, none⟩ = some (.slice a2 n d) ∧ wa.cell? ⟨w.heap.size + 1, 0, none⟩ = some (.slice b m c3) ∧ wa.cell? ⟨w.heap.size + 1, 1, none⟩ = some (.slice b2 m d3) ∧ Gr w wa := ⟨gX.cell hS.1, gX.cell hS.2.1, gX.cell hS.2.2.1, gX.cell hS.2.2.2.1, hS.2.2.2.2.trans gX⟩
      have BR := Lib.hid (BR.out.gr gX)
      refine hK.out _ _ hS ?_
      clear hK K gX hwa
      refine wpAnyHIn_ready [4] (by kernel_rfl) (by simp) ?_
      refine AllHIn.cons rfl (by rfl) (fun K hK => ?_) (AllHIn.nil)
      go_simp
      refine ⟨trivial, ?_⟩
      refine (callsIn_wide.2 (CP1.out _ hS.2.2.2.2)).mono ?_
      rintro e wX ⟨aX, kX, rfl, _, _, rdX, gX⟩
      have hS : wX.cell? ⟨w.heap.size, 0, none⟩ = some (.slice a n c) ∧ wX.cell? ⟨w.heap.size, 1, none⟩ = some (.slice a2 n d) ∧ wX.cell? ⟨w.heap.size + 1, 0, none⟩ = some (.slice b m c3) ∧ wX.cell? ⟨w.heap.size + 1, 1, none⟩ = some (.slice b2 m d3) ∧ Gr w wX := ⟨gX.cell hS.1, gX.cell hS.2.1, gX.cell hS.2.2.1, gX.cell hS.2.2.2.1, hS.2.2.2.2.trans gX⟩
      have BR := Lib.hid (BR.out.gr gX)
      have RX := Lib.hid rdX
      have B6 := Lib.hid (B6.out.gr gX)
      refine hK.out _ _ hS ?_
      clear hK K gX rdX
      refine wpAnyHIn_ready [9] (by kernel_rfl) (by simp) ?_
      refine AllHIn.cons rfl (by rfl) (fun K hK => ?_) (AllHIn.nil)
      go_simp
      refine ⟨trivial, ?_⟩
      refine (callsIn_wide.2 (CP2.out _ hS.2.2.2.2)).mono ?_
      rintro e wY ⟨aY, kY, rfl, _, _, rdY, gX⟩
      have hS : wY.cell? ⟨w.heap.size, 0, none⟩ = some (.slice a n c) ∧ wY.cell? ⟨w.heap.size, 1, none⟩ = some (.slice a2 n d) ∧ wY.cell? ⟨w.heap.size + 1, 0, none⟩ = some (.slice b m c3) ∧ wY.cell? ⟨w.heap.size + 1, 1, none⟩ = some (.slice b2 m d3) ∧ Gr w wY := ⟨gX.cell hS.1, gX.cell hS.2.1, gX.cell hS.2.2.1, gX.cell hS.2.2.2.1, hS.2.2.2.2.trans gX⟩
      have BR := Lib.hid (BR.out.gr gX)
      have RY := Lib.hid rdY
      have RX := Lib.hid (RX.out.gr gX)
      have B6 := Lib.hid (B6.out.gr gX)
      refine hK.out _ _ hS ?_
      clear hK K gX rdY
      iterate 1 (first
        | (refine wpAnyHIn_take 10 (v := ?_) rfl (by kernel_rfl) (by kernel_rfl) (by kernel_rfl) (by decide +kernel) (fun _ _ _ h => h) (fun _ _ _ => trivial) (by rfl) (fun w' hSw => ?_) hS ?_; rotate_left 1; (focus (skip; go_simp; try with_reducible rfl)); simp only [Act.put, List.setIfInBounds_toArray, List.set_cons_zero, List.set_cons_succ]))
      refine wpAnyHIn_ready [12] (by kernel_rfl) (by simp) ?_
      refine AllHIn.cons rfl (by rfl) (fun K hK => ?_) AllHIn.nil
      obtain ⟨k0, k1, k2, k3⟩ := B6.out
      have k5 := cell_by (k := 0) k1 (by omega) (Value.slice aX N kX)
      go_simp
      obtain ⟨WZ, hWZ⟩ : ∃ WZ, (wY.setCell ⟨WD.heap.size, 0, none⟩ (.slice aX N kX)).setCell ⟨WD.heap.size, 1, none⟩ (.slice aY N kY) = WZ := ⟨_, rfl⟩
      have hS : WZ.cell? ⟨w.heap.size, 0, none⟩ = some (.slice a n c) ∧ WZ.cell? ⟨w.heap.size, 1, none⟩ = some (.slice a2 n d) ∧ WZ.cell? ⟨w.heap.size + 1, 0, none⟩ = some (.slice b m c3) ∧ WZ.cell? ⟨w.heap.size + 1, 1, none⟩ = some (.slice b2 m d3) ∧ Gr w WZ := by rw [← hWZ]; exact ⟨cell_far (cell_far hS.1 (by omega) _) (by omega) _, cell_far (cell_far hS.2.1 (by omega) _) (by omega) _, cell_far (cell_far hS.2.2.1 (by omega) _) (by omega) _, cell_far (cell_far hS.2.2.2.1 (by omega) _) (by omega) _, (hS.2.2.2.2.setAt (by omega) _).setAt (by omega) _⟩
      have BZ := Lib.hid (show Box2v WZ (WD.heap.size) (.slice aX N kX) (.slice aY N kY) by rw [← hWZ]; exact Box2v.put B6.out _ _)
      have BR := Lib.hid (show Box2v WZ (w.heap.size + 2) (.slice none 0 0) (.slice none 0 0) by rw [← hWZ]; exact BR.out.far (by omega) _ _)
      have RX2 := Lib.hid (show RdI WZ aX N F by rw [← hWZ]; exact RX.out.put B6.out _ _)
      have RY2 := Lib.hid (show RdI WZ aY N G by rw [← hWZ]; exact RY.out.put B6.out _ _)
      simp only [hWZ]
      refine hK.out _ _ hS ?_
      clear hK K k0 k1 k2 k3 k5 hWZ
      refine wpAnyHIn_done (by kernel_rfl) ?_ _
      have C3 := Lib.hid (fun w' (k : Gr WZ w') => refValid_any aX aY N kX N kY F G w' (by omega) (by omega) (RX2.out.gr k) (RY2.out.gr k))
      rw [hx] at C3
      obtain ⟨z0, z1, _⟩ := BZ.out
      have GZ := Lib.hid hS.2.2.2.2
      clear hS
      go_wp2_with (go_at_call 15; (with_reducible refine (C3.out _ (by first | exact Gr.refl _ | exact (Gr.refl _).drew)).mono ?_); rintro e W5 ⟨rfl, g5⟩; have G5 := Lib.hid (GZ.out.trans g5); have BZ := Lib.hid (BZ.out.gr g5); have BR := Lib.hid (BR.out.gr g5); have RX2 := Lib.hid (RX2.out.gr g5); have RY2 := Lib.hid (RY2.out.gr g5); clear z0 z1; obtain ⟨z0, z1, _⟩ := BZ.out; obtain ⟨k0, k1, k2, k3⟩ := BR.out; clear g5)
      obtain ⟨y0, y1, _⟩ := BR.out.put (.slice none 0 0) (.slice none 0 0)
      refine bodyPost_ret (v := .tuple #[.agg #[.slice none 0 0, .slice none 0 0], .int .i64 5]) (by simp [results, Try.results31, go_sem, y0, y1]) rfl (RetD.no 5 ((G5.out.setAt (by omega) _).setAt (by omega) _))

end Go.Proofs.Ytohcnicadbpbbaa
