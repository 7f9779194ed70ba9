/- Contracts of chapter 7: the area of the reference, how far apart, and the pairs, of the program and of the reference. -/
import Derived.Test.YtohcnicadbpbbaaWE
namespace Go.Proofs.Ytohcnicadbpbbaa
open Go.RowKit Go.Firn

set_option maxHeartbeats 2000000 in
set_option maxRecDepth 100000 in
theorem refArea_no (a a2 : Option Addr) (n c m d : Nat) (f g : Nat → Int) (w : World) (hn : n ≤ 1000) (hm : m ≤ 1000) (hr : RdI w a n f) (hs : RdI w a2 m g) (hv : vO n m f g = false) :
    Calls Try.prog 21 #[.agg #[.slice a n c, .slice a2 m d]] w (RetRE 0 0 70 w) := by
  obtain ⟨W0, hW0⟩ : ∃ W0, (w.alloc (.cells #[.slice a n c, .slice a2 m d] 24)).alloc (.cells #[.int .i64 0, .int .i64 0] 28) = W0 := ⟨_, rfl⟩
  have G0 := Lib.hid (show Gr w W0 by rw [← hW0]; exact ((Gr.refl w).alloc _).alloc _)
  have B1 := Lib.hid (show BoxO W0 w.heap.size (.slice a n c) (.slice a2 m d) by rw [← hW0]; exact (BoxO.new rfl).gr ((Gr.refl _).alloc _))
  have B2 := Lib.hid (show Box2 W0 (w.heap.size + 1) 0 0 by rw [← hW0]; exact Box2.new (by simp))
  have C := Lib.hid (fun w' (k : Gr w w') => refValid_any a a2 n c m d f g w' hn hm (hr.gr k) (hs.gr k))
  rw [hv] at C
  obtain ⟨p0, p1⟩ := B1.out
  clear hr hs hv
  go_enter Try.func21, Try.ntmps21
  go_wp2_with (go_at_call 15; (with_reducible refine (C.out _ G0.out).mono ?_); rintro e w1 ⟨rfl, g1⟩; have G1 := Lib.hid (G0.out.trans g1); obtain ⟨k0, k1, k2, k3⟩ := B2.out.gr g1; clear g1)
  obtain ⟨z0, z1, _⟩ := (show Box2 w1 (w.heap.size + 1) 0 0 from ⟨k0, k1, k2, k3⟩).put (x' := 0) (y' := 0)
  refine bodyPost_ret (v := .tuple #[.agg #[.int .i64 0, .int .i64 0], .int .i64 70]) (by simp [results, Try.results21, go_sem, z0, z1]) rfl ⟨rfl, ?_⟩
  repeat (first | exact G1.out | refine Gr.setCell ?_ (by simp; omega) _ | refine Gr.setCell ?_ (by simp) _ | refine Gr.alloc ?_ _ | refine Gr.drewN ?_ _ | refine Gr.drew ?_)

set_option maxHeartbeats 4000000 in
set_option maxRecDepth 100000 in
theorem refArea_ok (a a2 : Option Addr) (n c d : Nat) (f g : Nat → Int) (w : World) (hr : RdI w a n f) (hs : RdI w a2 n g) (hf : ∀ i, 0 ≤ f i) (hg : ∀ i, 0 ≤ g i) (hv : VO n n f g) :
    Calls Try.prog 21 #[.agg #[.slice a n c, .slice a2 n d]] w (RetRE (rN (areN f g (rowN f g n) n) (2 * sm g n * sm f n)) (rD (areN f g (rowN f g n) n) (2 * sm g n * sm f n)) 0 w) := by
  have hn := hv.noise.few
  have hn0 := hv.noise.one
  obtain ⟨W0, hW0⟩ : ∃ W0, (w.alloc (.cells #[.slice a n c, .slice a2 n d] 24)).alloc (.cells #[.int .i64 0, .int .i64 0] 28) = W0 := ⟨_, rfl⟩
  have G0 := Lib.hid (show Gr w W0 by rw [← hW0]; exact ((Gr.refl w).alloc _).alloc _)
  have B1 := Lib.hid (show BoxO W0 w.heap.size (.slice a n c) (.slice a2 n d) by rw [← hW0]; exact (BoxO.new rfl).gr ((Gr.refl _).alloc _))
  have B2 := Lib.hid (show Box2 W0 (w.heap.size + 1) 0 0 by rw [← hW0]; exact Box2.new (by simp))
  have HF := Lib.hid hv.noise.ok
  have HG := Lib.hid hv.signal.ok
  have HF0 := Lib.hid hf
  have HG0 := Lib.hid hg
  have SF := sm_pos_bd hv.noise
  have SG := sm_pos_bd hv.signal
  have PR := prod_bd (a := sm f n) (b := sm g n) (by omega) (by omega)
  have PR2 := mul_bd (a := sm f n) (b := sm g n) (A := 10000) (B := 10000) (by omega) (by omega) (by omega) (by omega)
  have hr1 := Lib.hid hr
  have hs1 := Lib.hid hs
  obtain ⟨p0, p1⟩ := B1.out
  have C := Lib.hid (fun w' (k : Gr w w') => refValid_any a a2 n c n d f g w' (by omega) (by omega) (hr.gr k) (hs.gr k))
  rw [vO_iff.2 hv] at C
  have CT1 := Lib.hid (fun w' (k : Gr w w') => Total_any a n c f w' (by omega) (hr.gr k) (fun i hi => by have := hv.noise.ok i hi; omega))
  have CT2 := Lib.hid (fun w' (k : Gr w w') => Total_any a2 n d g w' (by omega) (hs.gr k) (fun i hi => by have := hv.signal.ok i hi; omega))
  have CW := Lib.hid (fun w' (k : Gr w w') => refrow_any a a2 n c d f g w' hn (hr.gr k) (hs.gr k) hf hg hv.noise.ok hv.signal.ok)
  have O := ord_row hf hg (n := n) hn0
  have OB := Lib.hid (O.bd)
  have BD := Lib.hid (fun (k : Nat) (hk : k ≤ n) => are_bd (f := f) (g := g) (R := rowN f g n) hn (fun k hk => hv.noise.ok _ (O.bd k hk)) (fun k hk => hv.signal.ok _ (O.bd k hk)) hk)
  have ED := Lib.hid (show 2 * sm g n * sm f n = 2 * (sm f n * sm g n) by rw [Int.mul_assoc, Int.mul_comm (sm g n)])
  have q5 : IntKind.i64.wrap (2 * sm g n) = 2 * sm g n := IntWalk.i64_in _ (by omega)
  have q6 : IntKind.i64.wrap (2 * sm g n * sm f n) = 2 * sm g n * sm f n := by rw [ED.out]; exact IntWalk.i64_in _ (by omega)
  have CX := Lib.hid (fun (x : Int) (h0 : 0 ≤ x) (h1 : x ≤ 1000000000) (w' : World) => Ratio_any x (2 * sm g n * sm f n) w' (Sz.of (by omega) (by omega)) (by rw [ED.out]; exact Sz.of (by omega) (by omega)) (by rw [ED.out]; omega))
  clear hr hs hf hg hv O PR PR2 SF SG ED
  generalize hR : rowN f g n = R at *
  generalize sm f n = sf at *
  generalize sm g n = sg at *
  clear hR
  go_enter Try.func21, Try.ntmps21
  go_wp2_with (first
    | (go_at_call 15; (with_reducible refine (C.out _ G0.out).mono ?_); rintro e W1 ⟨rfl, g1⟩; have G1 := Lib.hid (G0.out.trans g1); have B2x := Lib.hid (B2.out.gr g1); have B1x := Lib.hid (B1.out.gr g1); clear p0 p1; obtain ⟨p0, p1⟩ := B1x.out; clear g1)
    | (go_at_call 51; (with_reducible refine (CW.out _ G1.out).mono ?_); rintro e w2 ⟨ar, cr, rfl, l1, l2, rd, g2⟩; have G2 := Lib.hid (G1.out.trans g2); have B2 := Lib.hid (B2x.out.gr g2); have B1 := Lib.hid (B1x.out.gr g2); have RD := Lib.hid rd; clear g2 rd p0 p1))
  have G1 := G2
  have B2x := B2
  have B1x := B1
  go_loopw [4, 5, 7, 15] (fun x y _ i wr => ∃ k : Nat, k ≤ n ∧ i = .int .i64 k ∧ x = .int .i64 (areN f g R k) ∧ y = .int .i64 (sm (fun q => g (R q)) k) ∧ Hid (Gr w2 wr)) (fun _ _ _ i _ => n - (intOf i).toNat)
  case atStart => exact ⟨0, by omega, rfl, rfl, rfl, Lib.hid (by first | exact Gr.refl _ | exact (Gr.refl _).drew)⟩
  case round =>
    obtain ⟨k, hk, rfl, rfl, rfl, HW⟩ := hrel
    by_cases hlt : k < n
    · have hlti : (k : Int) < (n : Int) := by omega
      have GW := Lib.hid (G1.out.trans HW.out)
      obtain ⟨s0, s1⟩ := B1x.out.gr HW.out
      obtain ⟨b3, o3, e3, h3⟩ := (RD.out.gr HW.out).at hlt
      have c3 := h3 k hlt
      have rl := OB.out k hlt
      obtain ⟨b4, o4, e4, h4⟩ := (hr1.out.gr GW.out).at rl
      obtain ⟨b5, o5, e5, h5⟩ := (hs1.out.gr GW.out).at rl
      have c4 := h4 _ rl
      have c5 := h5 _ rl
      have f0 := HF.out _ rl
      have g0 := HG.out _ rl
      obtain ⟨⟨x0, x1⟩, y0, y1⟩ := BD.out k hk
      obtain ⟨⟨x2, x3⟩, y2, y3⟩ := BD.out (k + 1) hlt
      have rli : ((R k : Nat) : Int) < (n : Int) := by omega
      have E1 : areN f g R (k + 1) = areN f g R k + f (R k) * (2 * sm (fun q => g (R q)) k + g (R k)) := rfl
      have E2 : sm (fun q => g (R q)) (k + 1) = sm (fun q => g (R q)) k + g (R k) := rfl
      have E3 := Lib.hid E1
      have E4 := Lib.hid E2
      subst e3
      subst e4
      subst e5
      rw [E1] at x2 x3
      clear h3 h4 h5 rl E1 E2 y2 y3
      generalize areN f g R k = tw at *
      generalize sm (fun q => g (R q)) k = sn at *
      generalize f (R k) = fx at *
      generalize g (R k) = gx at *
      generalize R k = r at *
      have m1 := mul_bd (a := fx) (b := 2 * sn + gx) (A := 1000) (B := 21000) (by omega) (by omega) (by omega) (by omega)
      have q1 : IntKind.i64.wrap (2 * sn) = 2 * sn := IntWalk.i64_in _ (by omega)
      have q2 : IntKind.i64.wrap (2 * sn + gx) = 2 * sn + gx := IntWalk.i64_in _ (by omega)
      have q3 : IntKind.i64.wrap (fx * (2 * sn + gx)) = fx * (2 * sn + gx) := IntWalk.i64_in _ (by omega)
      have q4 : IntKind.i64.wrap (tw + fx * (2 * sn + gx)) = tw + fx * (2 * sn + gx) := IntWalk.i64_in _ (by omega)
      have q7 : IntKind.i64.wrap (sn + gx) = sn + gx := IntWalk.i64_in _ (by omega)
      clear m1 x0 x1 x2 x3
      go_wp2_with fail
      go_quiet (fail)
      go_wp2_with fail
      go_roundw
      case rel => exact ⟨k + 1, hlt, by go_num, by rw [E3.out], by rw [E4.out], Lib.hid (HW.out.drewN _)⟩
      case measure => simp [intOf]; omega
    · obtain rfl : k = n := by omega
      obtain ⟨⟨x0, x1'⟩, y0, y1⟩ := BD.out k hk
      have x1 : areN f g R k ≤ 1000000000 := by omega
      clear hlt
      generalize areN f g R k = tw at *
      obtain ⟨r0, r1⟩ := B1x.out.gr HW.out
      have B2' := Lib.hid (B2x.out.gr HW.out)
      obtain ⟨k0, k1, k2, k3⟩ := B2'.out
      have GW := Lib.hid (G1.out.trans HW.out)
      have CX' := Lib.hid (fun w' => CX.out _ x0 x1 w')
      go_wp2_with fail
      go_region_held3 (fun w' => w'.cell? ⟨w.heap.size, 0, none⟩ = some (.slice a k c) ∧ w'.cell? ⟨w.heap.size, 1, none⟩ = some (.slice a2 k d))
        (first | exact ⟨r0, r1⟩ | exact ⟨g3.cell r0, g3.cell r1⟩ | go_keep)
        (first
          | (go_at_call 43; (with_reducible refine (CT1.out _ (by first | exact GW.out | exact GW.out.drew)).mono ?_); rintro e w2 ⟨rfl, rfl⟩)
          | (go_at_call 43; (with_reducible refine (CT2.out _ (by first | exact GW.out | exact GW.out.drew)).mono ?_); rintro e w2 ⟨rfl, rfl⟩)
          | (go_at_call 41; (with_reducible refine (CX'.out _).mono ?_); rintro e w3 ⟨rfl, g3⟩; obtain ⟨k0, k1, k2, k3⟩ := (show Box2 w3 (w.heap.size + 1) 0 0 from by first | exact B2'.out.gr g3 | exact B2'.out.drew.gr g3); have G3 := Lib.hid (show Gr w w3 from by first | exact GW.out.trans g3 | exact GW.out.drew.trans g3)))
      obtain ⟨z0, z1, _⟩ := (show Box2 w3 (w.heap.size + 1) 0 0 from ⟨k0, k1, k2, k3⟩).put (x' := rN tw (2 * sg * sf)) (y' := rD tw (2 * sg * sf))
      go_wp2_with fail
      refine bodyPost_ret (v := .tuple #[.agg #[.int .i64 (rN tw (2 * sg * sf)), .int .i64 (rD tw (2 * sg * sf))], .int .i64 0]) (by simp [results, Try.results21, go_sem, z0, z1]) rfl ⟨by first | rfl | (subst htw; rfl), ?_⟩
      repeat (first | exact G3.out | refine Gr.setCell ?_ (by simp; omega) _ | refine Gr.setCell ?_ (by simp) _ | refine Gr.alloc ?_ _ | refine Gr.drewN ?_ _ | refine Gr.drew ?_)

theorem ap_bd {f g : Nat → Int} {n : Nat} {sf sg : Int} (hn : n ≤ 10) (hf : ∀ i, i < n → 0 ≤ f i ∧ f i ≤ 1000) (hg : ∀ i, i < n → 0 ≤ g i ∧ g i ≤ 1000) (h1 : 0 < sf ∧ sf ≤ 10000) (h2 : 0 < sg ∧ sg ≤ 10000) {k : Nat} (hk : k ≤ n) :
    0 ≤ sm (fun a => max 0 (g a * sf - f a * sg)) k ∧ sm (fun a => max 0 (g a * sf - f a * sg)) k ≤ 200000000 := by
  have t := sm_bd (f := fun a => max 0 (g a * sf - f a * sg)) (B := 20000000) (k := k) (fun i hi => by
    have a := hf i (by omega)
    have b := hg i (by omega)
    have m1 := mul_bd (a := g i) (b := sf) (A := 1000) (B := 10000) (by omega) (by omega) (by omega) (by omega)
    have m2 := mul_bd (a := f i) (b := sg) (A := 1000) (B := 10000) (by omega) (by omega) (by omega) (by omega)
    omega)
  omega
theorem aa_bd {f g : Nat → Int} {n : Nat} {sf sg : Int} (hn : n ≤ 10) (hf : ∀ i, i < n → 0 ≤ f i ∧ f i ≤ 1000) (hg : ∀ i, i < n → 0 ≤ g i ∧ g i ≤ 1000) (h1 : 0 < sf ∧ sf ≤ 10000) (h2 : 0 < sg ∧ sg ≤ 10000) {k : Nat} (hk : k ≤ n) :
    0 ≤ sm (fun a => max (g a * sf - f a * sg) (-(g a * sf - f a * sg))) k ∧ sm (fun a => max (g a * sf - f a * sg) (-(g a * sf - f a * sg))) k ≤ 200000000 := by
  have t := sm_bd (f := fun a => max (g a * sf - f a * sg) (-(g a * sf - f a * sg))) (B := 20000000) (k := k) (fun i hi => by
    have a := hf i (by omega)
    have b := hg i (by omega)
    have m1 := mul_bd (a := g i) (b := sf) (A := 1000) (B := 10000) (by omega) (by omega) (by omega) (by omega)
    have m2 := mul_bd (a := f i) (b := sg) (A := 1000) (B := 10000) (by omega) (by omega) (by omega) (by omega)
    omega)
  omega

set_option maxHeartbeats 2000000 in
set_option maxRecDepth 100000 in
theorem Apart_no (a a2 : Option Addr) (n c m d : Nat) (f g : Nat → Int) (w : World) (hn : n ≤ 1000) (hm : m ≤ 1000) (hr : RdI w a n f) (hs : RdI w a2 m g) (hv : vO n m f g = false) :
    Calls Try.prog 24 #[.agg #[.slice a n c, .slice a2 m d]] w (RetRE 0 0 70 w) := by
  obtain ⟨W0, hW0⟩ : ∃ W0, (w.alloc (.cells #[.slice a n c, .slice a2 m d] 24)).alloc (.cells #[.int .i64 0, .int .i64 0] 28) = W0 := ⟨_, rfl⟩
  have G0 := Lib.hid (show Gr w W0 by rw [← hW0]; exact ((Gr.refl w).alloc _).alloc _)
  have B1 := Lib.hid (show BoxO W0 w.heap.size (.slice a n c) (.slice a2 m d) by rw [← hW0]; exact (BoxO.new rfl).gr ((Gr.refl _).alloc _))
  have B2 := Lib.hid (show Box2 W0 (w.heap.size + 1) 0 0 by rw [← hW0]; exact Box2.new (by simp))
  have C := Lib.hid (fun w' (k : Gr w w') => newOdds_no a a2 n c m d f g w' hn hm (hr.gr k) (hs.gr k) hv)
  obtain ⟨p0, p1⟩ := B1.out
  clear hr hs hv
  go_enter Try.func24, Try.ntmps24
  go_wp2_with (go_at_call 48; (with_reducible refine (C.out _ G0.out).mono ?_); rintro e w1 ⟨rfl, g1⟩; have g1' := g1.alloc (.cells #[.slice none 0 0, .slice none 0 0, .int .i64 0, .int .i64 0] 52); have G1 := Lib.hid (G0.out.trans g1'); have N1 := Lib.hid (World.block_lt_of_cell? w1 _ (B2.out.gr g1).1); obtain ⟨k0, k1, k2, k3⟩ := B2.out.gr g1'; clear g1 g1')
  obtain ⟨z0, z1, _⟩ := (show Box2 (w1.alloc (.cells #[.slice none 0 0, .slice none 0 0, .int .i64 0, .int .i64 0] 52)) (w.heap.size + 1) 0 0 from ⟨k0, k1, k2, k3⟩).put (x' := 0) (y' := 0)
  refine bodyPost_ret (v := .tuple #[.agg #[.int .i64 0, .int .i64 0], .int .i64 70]) (by simp [results, Try.results24, go_sem, z0, z1]) rfl ⟨rfl, ?_⟩
  repeat (first | exact G1.out | refine Gr.setCell ?_ (by simp; omega) _ | refine Gr.setCell ?_ (by simp) _ | refine Gr.alloc ?_ _ | refine Gr.drewN ?_ _ | refine Gr.drew ?_)

set_option maxHeartbeats 4000000 in
set_option maxRecDepth 100000 in
theorem Apart_ok (a a2 : Option Addr) (n c d : Nat) (f g : Nat → Int) (w : World) (hr : RdI w a n f) (hs : RdI w a2 n g) (hf : ∀ i, 0 ≤ f i) (hg : ∀ i, 0 ≤ g i) (hv : VO n n f g) :
    Calls Try.prog 24 #[.agg #[.slice a n c, .slice a2 n d]] w (RetRE (rN (apP f g n) (sm f n * sm g n)) (rD (apP f g n) (sm f n * sm g n)) 0 w) := by
  have hn := hv.noise.few
  have hn0 := hv.noise.one
  obtain ⟨W0, hW0⟩ : ∃ W0, (w.alloc (.cells #[.slice a n c, .slice a2 n d] 24)).alloc (.cells #[.int .i64 0, .int .i64 0] 28) = W0 := ⟨_, rfl⟩
  have G0 := Lib.hid (show Gr w W0 by rw [← hW0]; exact ((Gr.refl w).alloc _).alloc _)
  have B1 := Lib.hid (show BoxO W0 w.heap.size (.slice a n c) (.slice a2 n d) by rw [← hW0]; exact (BoxO.new rfl).gr ((Gr.refl _).alloc _))
  have B2 := Lib.hid (show Box2 W0 (w.heap.size + 1) 0 0 by rw [← hW0]; exact Box2.new (by simp))
  have HF := Lib.hid hv.noise.ok
  have HG := Lib.hid hv.signal.ok
  have HF0 := Lib.hid hf
  have HG0 := Lib.hid hg
  have SF := sm_pos_bd hv.noise
  have SG := sm_pos_bd hv.signal
  have PR := prod_bd (a := sm f n) (b := sm g n) (by omega) (by omega)
  have PR2 := mul_bd (a := sm f n) (b := sm g n) (A := 10000) (B := 10000) (by omega) (by omega) (by omega) (by omega)
  have hr1 := Lib.hid hr
  have hs1 := Lib.hid hs
  obtain ⟨p0, p1⟩ := B1.out
  have C := Lib.hid (fun w' (k : Gr w w') => newOdds_ok a a2 n c n d f g w' (by omega) (by omega) (hr.gr k) (hs.gr k) (vO_iff.2 hv))
  have BD := Lib.hid (fun (k : Nat) (hk : k ≤ n) => ap_bd (f := f) (g := g) (n := n) (sf := sm f n) (sg := sm g n) hn hv.noise.ok hv.signal.ok SF SG hk)
  have ED := Lib.hid (show sm f n * sm g n = sm f n * sm g n from rfl)
  have q6 : IntKind.i64.wrap (sm f n * sm g n) = sm f n * sm g n := IntWalk.i64_in _ (by omega)
  have CX := Lib.hid (fun (x : Int) (h0 : 0 ≤ x) (h1 : x ≤ 1000000000) (w' : World) => ratio_any x (sm f n * sm g n) w' (Sz.of (by omega) (by omega)) (by rw [ED.out]; exact Sz.of (by omega) (by omega)) (by rw [ED.out]; omega))
  have HSF := Lib.hid SF
  have HSG := Lib.hid SG
  unfold apP
  clear hr hs hf hg hv PR PR2 ED
  generalize sm f n = sf at *
  generalize sm g n = sg at *
  go_enter Try.func24, Try.ntmps24
  go_wp2_with (first
    | (go_at_call 48; (with_reducible refine (C.out _ G0.out).mono ?_); rintro e w1 ⟨rfl, g1⟩; have g1' := g1.alloc (.cells #[.slice a n c, .slice a2 n d, .int .i64 sf, .int .i64 sg] 52); obtain ⟨W1, hW1⟩ : ∃ W1, w1.alloc (.cells #[.slice a n c, .slice a2 n d, .int .i64 sf, .int .i64 sg] 52) = W1 := ⟨_, rfl⟩; rw [hW1] at g1'; have G1 := Lib.hid (G0.out.trans g1'); have B3 := Lib.hid (show Box4 W1 w1.heap.size (.slice a n c) (.slice a2 n d) (.int .i64 sf) (.int .i64 sg) by rw [← hW1]; exact Box4.new rfl); have B2x := Lib.hid (B2.out.gr g1'); have B1x := Lib.hid (B1.out.gr g1'); clear p0 p1; obtain ⟨p0, p1⟩ := B1x.out; clear g1 g1'))
  go_loopw [6, 7, 20] (fun x _ i wr => ∃ k : Nat, k ≤ n ∧ i = .int .i64 k ∧ x = .int .i64 (sm (fun a => max 0 (g a * sf - f a * sg)) k) ∧ Hid (Gr W1 wr)) (fun _ _ i _ => n - (intOf i).toNat)
  case atStart => exact ⟨0, by omega, rfl, rfl, Lib.hid (by first | exact Gr.refl _ | exact (Gr.refl _).drew)⟩
  case round =>
    obtain ⟨k, hk, rfl, rfl, HW⟩ := hrel
    by_cases hlt : k < n
    · have hlti : (k : Int) < (n : Int) := by omega
      have GW := Lib.hid (G1.out.trans HW.out)
      obtain ⟨t0, t1, t2, t3, _⟩ := B3.out.gr HW.out
      obtain ⟨s0, s1⟩ := B1x.out.gr HW.out
      obtain ⟨b4, o4, e4, h4⟩ := (hr1.out.gr GW.out).at hlt
      obtain ⟨b5, o5, e5, h5⟩ := (hs1.out.gr GW.out).at hlt
      have c4 := h4 _ hlt
      have c5 := h5 _ hlt
      have f0 := HF.out _ hlt
      have g0 := HG.out _ hlt
      obtain ⟨x0, x1⟩ := BD.out k hk
      obtain ⟨x2, x3⟩ := BD.out (k + 1) hlt
      have E1 : sm (fun a => max 0 (g a * sf - f a * sg)) (k + 1) = sm (fun a => max 0 (g a * sf - f a * sg)) k + max 0 (g k * sf - f k * sg) := rfl
      have E3 := Lib.hid E1
      subst e4
      subst e5
      rw [E1] at x2 x3
      clear h4 h5 E1
      generalize sm (fun a => max 0 (g a * sf - f a * sg)) k = tw at *
      generalize f k = fx at *
      generalize g k = gx at *
      have m1 := mul_bd (a := gx) (b := sf) (A := 1000) (B := 10000) (by omega) (by omega) (by omega) (by omega)
      have m2 := mul_bd (a := fx) (b := sg) (A := 1000) (B := 10000) (by omega) (by omega) (by omega) (by omega)
      have q1 : IntKind.i64.wrap (gx * sf) = gx * sf := IntWalk.i64_in _ (by omega)
      have q2 : IntKind.i64.wrap (fx * sg) = fx * sg := IntWalk.i64_in _ (by omega)
      have q3 : IntKind.i64.wrap (gx * sf - fx * sg) = gx * sf - fx * sg := IntWalk.i64_in _ (by omega)
      have z0 : max 0 (gx * sf - fx * sg) ≤ 20000000 ∧ 0 ≤ max 0 (gx * sf - fx * sg) := by omega
      have q4 : IntKind.i64.wrap (tw + max 0 (gx * sf - fx * sg)) = tw + max 0 (gx * sf - fx * sg) := IntWalk.i64_in _ (by omega)
      have q9 := z0
      clear m1 m2 x2 x3 q9
      go_wp2_with fail
      go_quiet (fail)
      go_wp2_with fail
      go_roundw
      case rel => exact ⟨k + 1, hlt, by go_num, by rw [E3.out]; congr 1; split <;> omega, Lib.hid (HW.out.drewN _)⟩
      case measure => simp [intOf]; omega
    · obtain rfl : k = n := by omega
      obtain ⟨x0, x1'⟩ := BD.out k hk
      have x1 : sm (fun a => max 0 (g a * sf - f a * sg)) k ≤ 1000000000 := by omega
      clear hlt SF SG
      obtain ⟨tw, htw⟩ : ∃ tw, sm (fun a => max 0 (g a * sf - f a * sg)) k = tw := ⟨_, rfl⟩
      rw [htw] at x0 x1 ⊢
      obtain ⟨r0, r1, r2, r3, _⟩ := B3.out.gr HW.out
      have B2' := Lib.hid (B2x.out.gr HW.out)
      have GW := Lib.hid (G1.out.trans HW.out)
      go_wp2_with (go_at_call 38; (with_reducible refine (CX.out _ x0 x1 _).mono ?_); rintro e w3 ⟨rfl, g3⟩; have G3 := Lib.hid (GW.out.trans g3); obtain ⟨k0, k1, k2, k3⟩ := B2'.out.gr g3; clear g3)
      obtain ⟨z0, z1, _⟩ := (show Box2 w3 (w.heap.size + 1) 0 0 from ⟨k0, k1, k2, k3⟩).put (x' := rN tw (sf * sg)) (y' := rD tw (sf * sg))
      refine bodyPost_ret (v := .tuple #[.agg #[.int .i64 (rN tw (sf * sg)), .int .i64 (rD tw (sf * sg))], .int .i64 0]) (by simp [results, Try.results24, go_sem, z0, z1]) rfl ⟨by first | rfl | (subst htw; rfl), ?_⟩
      repeat (first | exact G3.out | refine Gr.setCell ?_ (by simp; omega) _ | refine Gr.setCell ?_ (by simp) _ | refine Gr.alloc ?_ _ | refine Gr.drewN ?_ _ | refine Gr.drew ?_)

end Go.Proofs.Ytohcnicadbpbbaa
