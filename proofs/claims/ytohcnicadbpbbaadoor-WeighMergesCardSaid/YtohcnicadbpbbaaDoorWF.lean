/- Contracts of chapter 7: the area of the reference, how far apart, and the pairs, of the program and of the reference. -/
import Derived.Test.YtohcnicadbpbbaaDoorWE
namespace Go.Proofs.YtohcnicadbpbbaaDoor
open Go.RowKit Go.Firn

theorem ap_bd {f g : Nat → Int} {n : Nat} {sf sg : Int} (hn : n ≤ 10) (hf : ∀ i, i < n → 0 ≤ f i ∧ f i ≤ 1000) (hg : ∀ i, i < n → 0 ≤ g i ∧ g i ≤ 1000) (h1 : 0 < sf ∧ sf ≤ 10000) (h2 : 0 < sg ∧ sg ≤ 10000) {k : Nat} (hk : k ≤ n) :
    0 ≤ sm (fun a => max 0 (g a * sf - f a * sg)) k ∧ sm (fun a => max 0 (g a * sf - f a * sg)) k ≤ 200000000 := by
  have t := sm_bd (f := fun a => max 0 (g a * sf - f a * sg)) (B := 20000000) (k := k) (fun i hi => by
    have a := hf i (by omega)
    have b := hg i (by omega)
    have m1 := mul_bd (a := g i) (b := sf) (A := 1000) (B := 10000) (by omega) (by omega) (by omega) (by omega)
    have m2 := mul_bd (a := f i) (b := sg) (A := 1000) (B := 10000) (by omega) (by omega) (by omega) (by omega)
    omega)
  omega
theorem aa_bd {f g : Nat → Int} {n : Nat} {sf sg : Int} (hn : n ≤ 10) (hf : ∀ i, i < n → 0 ≤ f i ∧ f i ≤ 1000) (hg : ∀ i, i < n → 0 ≤ g i ∧ g i ≤ 1000) (h1 : 0 < sf ∧ sf ≤ 10000) (h2 : 0 < sg ∧ sg ≤ 10000) {k : Nat} (hk : k ≤ n) :
    0 ≤ sm (fun a => max (g a * sf - f a * sg) (-(g a * sf - f a * sg))) k ∧ sm (fun a => max (g a * sf - f a * sg) (-(g a * sf - f a * sg))) k ≤ 200000000 := by
  have t := sm_bd (f := fun a => max (g a * sf - f a * sg) (-(g a * sf - f a * sg))) (B := 20000000) (k := k) (fun i hi => by
    have a := hf i (by omega)
    have b := hg i (by omega)
    have m1 := mul_bd (a := g i) (b := sf) (A := 1000) (B := 10000) (by omega) (by omega) (by omega) (by omega)
    have m2 := mul_bd (a := f i) (b := sg) (A := 1000) (B := 10000) (by omega) (by omega) (by omega) (by omega)
    omega)
  omega

set_option maxHeartbeats 2000000 in
set_option maxRecDepth 100000 in
theorem Apart_no (a a2 : Option Addr) (n c m d : Nat) (f g : Nat → Int) (w : World) (hn : n ≤ 1000) (hm : m ≤ 1000) (hr : RdI w a n f) (hs : RdI w a2 m g) (hv : vO n m f g = false) :
    Calls Tryd.prog 22 #[.agg #[.slice a n c, .slice a2 m d]] w (RetRE 0 0 70 w) := by
  obtain ⟨W0, hW0⟩ : ∃ W0, (w.alloc (.cells #[.slice a n c, .slice a2 m d] 24)).alloc (.cells #[.int .i64 0, .int .i64 0] 26) = W0 := ⟨_, rfl⟩
  have G0 := Lib.hid (show Gr w W0 by rw [← hW0]; exact ((Gr.refl w).alloc _).alloc _)
  have B1 := Lib.hid (show BoxO W0 w.heap.size (.slice a n c) (.slice a2 m d) by rw [← hW0]; exact (BoxO.new rfl).gr ((Gr.refl _).alloc _))
  have B2 := Lib.hid (show Box2 W0 (w.heap.size + 1) 0 0 by rw [← hW0]; exact Box2.new (by simp))
  have C := Lib.hid (fun w' (k : Gr w w') => newOdds_no a a2 n c m d f g w' hn hm (hr.gr k) (hs.gr k) hv)
  obtain ⟨p0, p1⟩ := B1.out
  clear hr hs hv
  go_enter Tryd.func22, Tryd.ntmps22
  go_wp2_with (go_at_call 51; (with_reducible refine (C.out _ G0.out).mono ?_); rintro e w1 ⟨rfl, g1⟩; have g1' := g1.alloc (.cells #[.slice none 0 0, .slice none 0 0, .int .i64 0, .int .i64 0] 58); have G1 := Lib.hid (G0.out.trans g1'); have N1 := Lib.hid (World.block_lt_of_cell? w1 _ (B2.out.gr g1).1); obtain ⟨k0, k1, k2, k3⟩ := B2.out.gr g1'; clear g1 g1')
  obtain ⟨z0, z1, _⟩ := (show Box2 (w1.alloc (.cells #[.slice none 0 0, .slice none 0 0, .int .i64 0, .int .i64 0] 58)) (w.heap.size + 1) 0 0 from ⟨k0, k1, k2, k3⟩).put (x' := 0) (y' := 0)
  refine bodyPost_ret (v := .tuple #[.agg #[.int .i64 0, .int .i64 0], .int .i64 70]) (by simp [results, Tryd.results22, go_sem, z0, z1]) rfl ⟨rfl, ?_⟩
  repeat (first | exact G1.out | refine Gr.setCell ?_ (by simp; omega) _ | refine Gr.setCell ?_ (by simp) _ | refine Gr.alloc ?_ _ | refine Gr.drewN ?_ _ | refine Gr.drew ?_)

set_option maxHeartbeats 4000000 in
set_option maxRecDepth 100000 in
theorem Apart_ok (a a2 : Option Addr) (n c d : Nat) (f g : Nat → Int) (w : World) (hr : RdI w a n f) (hs : RdI w a2 n g) (hf : ∀ i, 0 ≤ f i) (hg : ∀ i, 0 ≤ g i) (hv : VO n n f g) :
    Calls Tryd.prog 22 #[.agg #[.slice a n c, .slice a2 n d]] w (RetRE (rN (apP f g n) (sm f n * sm g n)) (rD (apP f g n) (sm f n * sm g n)) 0 w) := by
  have hn := hv.noise.few
  have hn0 := hv.noise.one
  obtain ⟨W0, hW0⟩ : ∃ W0, (w.alloc (.cells #[.slice a n c, .slice a2 n d] 24)).alloc (.cells #[.int .i64 0, .int .i64 0] 26) = W0 := ⟨_, rfl⟩
  have G0 := Lib.hid (show Gr w W0 by rw [← hW0]; exact ((Gr.refl w).alloc _).alloc _)
  have B1 := Lib.hid (show BoxO W0 w.heap.size (.slice a n c) (.slice a2 n d) by rw [← hW0]; exact (BoxO.new rfl).gr ((Gr.refl _).alloc _))
  have B2 := Lib.hid (show Box2 W0 (w.heap.size + 1) 0 0 by rw [← hW0]; exact Box2.new (by simp))
  have HF := Lib.hid hv.noise.ok
  have HG := Lib.hid hv.signal.ok
  have HF0 := Lib.hid hf
  have HG0 := Lib.hid hg
  have SF := sm_pos_bd hv.noise
  have SG := sm_pos_bd hv.signal
  have PR := prod_bd (a := sm f n) (b := sm g n) (by omega) (by omega)
  have PR2 := mul_bd (a := sm f n) (b := sm g n) (A := 10000) (B := 10000) (by omega) (by omega) (by omega) (by omega)
  have hr1 := Lib.hid hr
  have hs1 := Lib.hid hs
  obtain ⟨p0, p1⟩ := B1.out
  have C := Lib.hid (fun w' (k : Gr w w') => newOdds_ok a a2 n c n d f g w' (by omega) (by omega) (hr.gr k) (hs.gr k) (vO_iff.2 hv))
  have BD := Lib.hid (fun (k : Nat) (hk : k ≤ n) => ap_bd (f := f) (g := g) (n := n) (sf := sm f n) (sg := sm g n) hn hv.noise.ok hv.signal.ok SF SG hk)
  have ED := Lib.hid (show sm f n * sm g n = sm f n * sm g n from rfl)
  have q6 : IntKind.i64.wrap (sm f n * sm g n) = sm f n * sm g n := IntWalk.i64_in _ (by omega)
  have CX := Lib.hid (fun (x : Int) (h0 : 0 ≤ x) (h1 : x ≤ 1000000000) (w' : World) => ratio_any x (sm f n * sm g n) w' (Sz.of (by omega) (by omega)) (by rw [ED.out]; exact Sz.of (by omega) (by omega)) (by rw [ED.out]; omega))
  have HSF := Lib.hid SF
  have HSG := Lib.hid SG
  unfold apP
  clear hr hs hf hg hv PR PR2 ED
  generalize sm f n = sf at *
  generalize sm g n = sg at *
  go_enter Tryd.func22, Tryd.ntmps22
  go_wp2_with (first
    | (go_at_call 51; (with_reducible refine (C.out _ G0.out).mono ?_); rintro e w1 ⟨rfl, g1⟩; have g1' := g1.alloc (.cells #[.slice a n c, .slice a2 n d, .int .i64 sf, .int .i64 sg] 58); obtain ⟨W1, hW1⟩ : ∃ W1, w1.alloc (.cells #[.slice a n c, .slice a2 n d, .int .i64 sf, .int .i64 sg] 58) = W1 := ⟨_, rfl⟩; rw [hW1] at g1'; have G1 := Lib.hid (G0.out.trans g1'); have B3 := Lib.hid (show Box4 W1 w1.heap.size (.slice a n c) (.slice a2 n d) (.int .i64 sf) (.int .i64 sg) by rw [← hW1]; exact Box4.new rfl); have B2x := Lib.hid (B2.out.gr g1'); have B1x := Lib.hid (B1.out.gr g1'); clear p0 p1; obtain ⟨p0, p1⟩ := B1x.out; clear g1 g1'))
  go_loopw [6, 7, 20] (fun x _ i wr => ∃ k : Nat, k ≤ n ∧ i = .int .i64 k ∧ x = .int .i64 (sm (fun a => max 0 (g a * sf - f a * sg)) k) ∧ Hid (Gr W1 wr)) (fun _ _ i _ => n - (intOf i).toNat)
  case atStart => exact ⟨0, by omega, rfl, rfl, Lib.hid (by first | exact Gr.refl _ | exact (Gr.refl _).drew)⟩
  case round =>
    obtain ⟨k, hk, rfl, rfl, HW⟩ := hrel
    by_cases hlt : k < n
    · have hlti : (k : Int) < (n : Int) := by omega
      have GW := Lib.hid (G1.out.trans HW.out)
      obtain ⟨t0, t1, t2, t3, _⟩ := B3.out.gr HW.out
      obtain ⟨s0, s1⟩ := B1x.out.gr HW.out
      obtain ⟨b4, o4, e4, h4⟩ := (hr1.out.gr GW.out).at hlt
      obtain ⟨b5, o5, e5, h5⟩ := (hs1.out.gr GW.out).at hlt
      have c4 := h4 _ hlt
      have c5 := h5 _ hlt
      have f0 := HF.out _ hlt
      have g0 := HG.out _ hlt
      obtain ⟨x0, x1⟩ := BD.out k hk
      obtain ⟨x2, x3⟩ := BD.out (k + 1) hlt
      have E1 : sm (fun a => max 0 (g a * sf - f a * sg)) (k + 1) = sm (fun a => max 0 (g a * sf - f a * sg)) k + max 0 (g k * sf - f k * sg) := rfl
      have E3 := Lib.hid E1
      subst e4
      subst e5
      rw [E1] at x2 x3
      clear h4 h5 E1
      generalize sm (fun a => max 0 (g a * sf - f a * sg)) k = tw at *
      generalize f k = fx at *
      generalize g k = gx at *
      have m1 := mul_bd (a := gx) (b := sf) (A := 1000) (B := 10000) (by omega) (by omega) (by omega) (by omega)
      have m2 := mul_bd (a := fx) (b := sg) (A := 1000) (B := 10000) (by omega) (by omega) (by omega) (by omega)
      have q1 : IntKind.i64.wrap (gx * sf) = gx * sf := IntWalk.i64_in _ (by omega)
      have q2 : IntKind.i64.wrap (fx * sg) = fx * sg := IntWalk.i64_in _ (by omega)
      have q3 : IntKind.i64.wrap (gx * sf - fx * sg) = gx * sf - fx * sg := IntWalk.i64_in _ (by omega)
      have z0 : max 0 (gx * sf - fx * sg) ≤ 20000000 ∧ 0 ≤ max 0 (gx * sf - fx * sg) := by omega
      have q4 : IntKind.i64.wrap (tw + max 0 (gx * sf - fx * sg)) = tw + max 0 (gx * sf - fx * sg) := IntWalk.i64_in _ (by omega)
      have q9 := z0
      clear m1 m2 x2 x3 q9
      go_wp2_with fail
      go_quiet (fail)
      go_wp2_with fail
      go_roundw
      case rel => exact ⟨k + 1, hlt, by go_num, by rw [E3.out]; congr 1; split <;> omega, Lib.hid (HW.out.drewN _)⟩
      case measure => simp [intOf]; omega
    · obtain rfl : k = n := by omega
      obtain ⟨x0, x1'⟩ := BD.out k hk
      have x1 : sm (fun a => max 0 (g a * sf - f a * sg)) k ≤ 1000000000 := by omega
      clear hlt SF SG
      obtain ⟨tw, htw⟩ : ∃ tw, sm (fun a => max 0 (g a * sf - f a * sg)) k = tw := ⟨_, rfl⟩
      rw [htw] at x0 x1 ⊢
      obtain ⟨r0, r1, r2, r3, _⟩ := B3.out.gr HW.out
      have B2' := Lib.hid (B2x.out.gr HW.out)
      have GW := Lib.hid (G1.out.trans HW.out)
      go_wp2_with (go_at_call 42; (with_reducible refine (CX.out _ x0 x1 _).mono ?_); rintro e w3 ⟨rfl, g3⟩; have G3 := Lib.hid (GW.out.trans g3); obtain ⟨k0, k1, k2, k3⟩ := B2'.out.gr g3; clear g3)
      obtain ⟨z0, z1, _⟩ := (show Box2 w3 (w.heap.size + 1) 0 0 from ⟨k0, k1, k2, k3⟩).put (x' := rN tw (sf * sg)) (y' := rD tw (sf * sg))
      refine bodyPost_ret (v := .tuple #[.agg #[.int .i64 (rN tw (sf * sg)), .int .i64 (rD tw (sf * sg))], .int .i64 0]) (by simp [results, Tryd.results22, go_sem, z0, z1]) rfl ⟨by first | rfl | (subst htw; rfl), ?_⟩
      repeat (first | exact G3.out | refine Gr.setCell ?_ (by simp; omega) _ | refine Gr.setCell ?_ (by simp) _ | refine Gr.alloc ?_ _ | refine Gr.drewN ?_ _ | refine Gr.drew ?_)

end Go.Proofs.YtohcnicadbpbbaaDoor
