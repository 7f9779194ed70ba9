/- Contracts of chapter 7: the area under the curve, and Awake. -/
import Derived.Test.YtohcnicadbpbbaaDoorWC
namespace Go.Proofs.YtohcnicadbpbbaaDoor
open Go.RowKit Go.Firn

theorem are_bd {f g : Nat → Int} {R : Nat → Nat} {n : Nat} (hn : n ≤ 10) (hf : ∀ k, k < n → 0 ≤ f (R k) ∧ f (R k) ≤ 1000) (hg : ∀ k, k < n → 0 ≤ g (R k) ∧ g (R k) ≤ 1000) {k : Nat} (hk : k ≤ n) :
    (0 ≤ areN f g R k ∧ areN f g R k ≤ 210000000) ∧ 0 ≤ sm (fun q => g (R q)) k ∧ sm (fun q => g (R q)) k ≤ 10000 := by
  have s : ∀ p, p ≤ n → 0 ≤ sm (fun q => g (R q)) p ∧ sm (fun q => g (R q)) p ≤ 10000 := fun p hp => by
    have := sm_bd (f := fun q => g (R q)) (B := 1000) (k := p) (fun i hi => hg i (by omega))
    omega
  have t := sm_bd (f := fun p => f (R p) * (2 * sm (fun q => g (R q)) p + g (R p))) (B := 21000000) (k := k) (fun i hi => by
    have a := s i (by omega)
    have b := hf i (by omega)
    have c := hg i (by omega)
    have m := mul_bd (a := f (R i)) (b := 2 * sm (fun q => g (R q)) i + g (R i)) (A := 1000) (B := 21000) (by omega) b.2 (by omega) (by omega)
    exact ⟨Int.mul_nonneg b.1 (by omega), by omega⟩)
  refine ⟨?_, s k hk⟩
  unfold areN
  omega
theorem prod_bd {a b : Int} (ha : 0 < a ∧ a ≤ 1000000) (hb : 0 < b ∧ b ≤ 1000000) : 0 < a * b ∧ a * b ≤ 1000000000000 :=
  ⟨Int.mul_pos ha.1 hb.1, (mul_bd (A := 1000000) (B := 1000000) (by omega) ha.2 (by omega) hb.2).2⟩

/-- The error of odds. -/
def errO (v : Bool) : Int := if v then 0 else 70
theorem okN_no {E : Int} (h : E ≠ 0) (x : Int) : okN E x = 0 := by unfold okN; rw [if_neg h]

theorem sm_pos_bd {f : Nat → Int} {n : Nat} (h : VW n f) : 0 < sm f n ∧ sm f n ≤ 10000 := by
  have a := (sm_bd (f := f) (B := 1000) (k := n) h.ok).2
  have b := h.few
  exact ⟨h.pos, by omega⟩

set_option maxHeartbeats 2000000 in
set_option maxRecDepth 100000 in
theorem Area_no (a a2 : Option Addr) (n c m d : Nat) (f g : Nat → Int) (w : World) (hn : n ≤ 1000) (hm : m ≤ 1000) (hr : RdI w a n f) (hs : RdI w a2 m g) (hv : vO n m f g = false) :
    Calls Tryd.prog 40 #[.agg #[.slice a n c, .slice a2 m d]] w (RetRE 0 0 70 w) := by
  obtain ⟨W0, hW0⟩ : ∃ W0, (w.alloc (.cells #[.slice a n c, .slice a2 m d] 24)).alloc (.cells #[.int .i64 0, .int .i64 0] 26) = W0 := ⟨_, rfl⟩
  have G0 := Lib.hid (show Gr w W0 by rw [← hW0]; exact ((Gr.refl w).alloc _).alloc _)
  have B1 := Lib.hid (show BoxO W0 w.heap.size (.slice a n c) (.slice a2 m d) by rw [← hW0]; exact (BoxO.new rfl).gr ((Gr.refl _).alloc _))
  have B2 := Lib.hid (show Box2 W0 (w.heap.size + 1) 0 0 by rw [← hW0]; exact Box2.new (by simp))
  have C := Lib.hid (fun w' (k : Gr w w') => newOdds_no a a2 n c m d f g w' hn hm (hr.gr k) (hs.gr k) hv)
  obtain ⟨p0, p1⟩ := B1.out
  clear hr hs hv
  go_enter Tryd.func40, Tryd.ntmps40
  go_wp2_with (go_at_call 51; (with_reducible refine (C.out _ G0.out).mono ?_); rintro e w1 ⟨rfl, g1⟩; have g1' := g1.alloc (.cells #[.slice none 0 0, .slice none 0 0, .int .i64 0, .int .i64 0] 58); have G1 := Lib.hid (G0.out.trans g1'); have N1 := Lib.hid (World.block_lt_of_cell? w1 _ (B2.out.gr g1).1); obtain ⟨k0, k1, k2, k3⟩ := B2.out.gr g1'; clear g1 g1')
  obtain ⟨z0, z1, _⟩ := (show Box2 (w1.alloc (.cells #[.slice none 0 0, .slice none 0 0, .int .i64 0, .int .i64 0] 58)) (w.heap.size + 1) 0 0 from ⟨k0, k1, k2, k3⟩).put (x' := 0) (y' := 0)
  refine bodyPost_ret (v := .tuple #[.agg #[.int .i64 0, .int .i64 0], .int .i64 70]) (by simp [results, Tryd.results40, go_sem, z0, z1]) rfl ⟨rfl, ?_⟩
  repeat (first | exact G1.out | refine Gr.setCell ?_ (by simp; omega) _ | refine Gr.setCell ?_ (by simp) _ | refine Gr.alloc ?_ _ | refine Gr.drewN ?_ _ | refine Gr.drew ?_)

set_option maxHeartbeats 4000000 in
set_option maxRecDepth 100000 in
theorem Area_ok (a a2 : Option Addr) (n c d : Nat) (f g : Nat → Int) (w : World) (hr : RdI w a n f) (hs : RdI w a2 n g) (hf : ∀ i, 0 ≤ f i) (hg : ∀ i, 0 ≤ g i) (hv : VO n n f g) :
    Calls Tryd.prog 40 #[.agg #[.slice a n c, .slice a2 n d]] w (RetRE (rN (areN f g (rowN f g n) n) (2 * sm f n * sm g n)) (rD (areN f g (rowN f g n) n) (2 * sm f n * sm g n)) 0 w) := by
  have hn := hv.noise.few
  have hn0 := hv.noise.one
  obtain ⟨W0, hW0⟩ : ∃ W0, (w.alloc (.cells #[.slice a n c, .slice a2 n d] 24)).alloc (.cells #[.int .i64 0, .int .i64 0] 26) = W0 := ⟨_, rfl⟩
  have G0 := Lib.hid (show Gr w W0 by rw [← hW0]; exact ((Gr.refl w).alloc _).alloc _)
  have B1 := Lib.hid (show BoxO W0 w.heap.size (.slice a n c) (.slice a2 n d) by rw [← hW0]; exact (BoxO.new rfl).gr ((Gr.refl _).alloc _))
  have B2 := Lib.hid (show Box2 W0 (w.heap.size + 1) 0 0 by rw [← hW0]; exact Box2.new (by simp))
  have C := Lib.hid (fun w' (k : Gr w w') => newOdds_ok a a2 n c n d f g w' (by omega) (by omega) (hr.gr k) (hs.gr k) (vO_iff.2 hv))
  have CR := Lib.hid (fun (u v : Value) w' (k : Gr w w') => row_any a a2 n c d f g u v w' ⟨hn0, hn⟩ (hr.gr k) (hs.gr k) hv.noise.ok hv.signal.ok)
  have O := ord_row hf hg (n := n) hn0
  have OB := Lib.hid (O.bd)
  have BD := Lib.hid (fun (k : Nat) (hk : k ≤ n) => are_bd (f := f) (g := g) (R := rowN f g n) hn (fun k hk => hv.noise.ok _ (O.bd k hk)) (fun k hk => hv.signal.ok _ (O.bd k hk)) hk)
  have HF := Lib.hid hv.noise.ok
  have HG := Lib.hid hv.signal.ok
  have SF := sm_pos_bd hv.noise
  have SG := sm_pos_bd hv.signal
  have PR := prod_bd (a := sm f n) (b := sm g n) (by omega) (by omega)
  have PR2 := mul_bd (a := sm f n) (b := sm g n) (A := 10000) (B := 10000) (by omega) (by omega) (by omega) (by omega)
  have hr1 := Lib.hid hr
  have hs1 := Lib.hid hs
  obtain ⟨p0, p1⟩ := B1.out
  have ED := Lib.hid (show 2 * sm f n * sm g n = 2 * (sm f n * sm g n) from Int.mul_assoc _ _ _)
  have q5 : IntKind.i64.wrap (2 * sm f n) = 2 * sm f n := IntWalk.i64_in _ (by omega)
  have q6 : IntKind.i64.wrap (2 * sm f n * sm g n) = 2 * sm f n * sm g n := by rw [ED.out]; exact IntWalk.i64_in _ (by omega)
  have CX := Lib.hid (fun (x : Int) (h0 : 0 ≤ x) (h1 : x ≤ 210000000) (w' : World) => ratio_any x (2 * sm f n * sm g n) w' (Sz.of (by omega) (by omega)) (by rw [ED.out]; exact Sz.of (by omega) (by omega)) (by rw [ED.out]; omega))
  clear hr hs hf hg hv O PR PR2 SF SG ED
  generalize hR : rowN f g n = R at *
  generalize sm f n = sf at *
  generalize sm g n = sg at *
  clear hR
  go_enter Tryd.func40, Tryd.ntmps40
  go_wp2_with (first
    | (go_at_call 51; (with_reducible refine (C.out _ G0.out).mono ?_); rintro e w1 ⟨rfl, g1⟩; have g1' := g1.alloc (.cells #[.slice a n c, .slice a2 n d, .int .i64 sf, .int .i64 sg] 58); have G1 := Lib.hid (G0.out.trans g1'); have B3 := Lib.hid (show Box4 (w1.alloc (.cells #[.slice a n c, .slice a2 n d, .int .i64 sf, .int .i64 sg] 58)) w1.heap.size (.slice a n c) (.slice a2 n d) (.int .i64 sf) (.int .i64 sg) from Box4.new rfl); have B2 := Lib.hid (B2.out.gr g1'); have B1 := Lib.hid (B1.out.gr g1'); obtain ⟨r0, r1, r2, r3, _⟩ := B3.out; clear g1 g1' p0 p1)
    | (go_at_call 57; (with_reducible refine (CR.out _ _ _ G1.out).mono ?_); rintro e w2 ⟨ar, cr, rfl, l1, l2, rd, g2⟩; have G2 := Lib.hid (G1.out.trans g2); have B2x := Lib.hid (B2.out.gr g2); have B1x := Lib.hid (B1.out.gr g2); have B3x := Lib.hid (B3.out.gr g2); have RD := Lib.hid rd; clear g2 rd r0 r1 r2 r3))
  go_loopw [6, 7, 9, 22] (fun x y _ i wr => ∃ k : Nat, k ≤ n ∧ i = .int .i64 k ∧ x = .int .i64 (areN f g R k) ∧ y = .int .i64 (sm (fun q => g (R q)) k) ∧ Hid (Gr w2 wr)) (fun _ _ _ i _ => n - (intOf i).toNat)
  case atStart => exact ⟨0, by omega, rfl, rfl, rfl, Lib.hid (by first | exact Gr.refl _ | exact (Gr.refl _).drew)⟩
  case round =>
    obtain ⟨k, hk, rfl, rfl, rfl, HW⟩ := hrel
    by_cases hlt : k < n
    · have hlti : (k : Int) < (n : Int) := by omega
      have GW := Lib.hid (G2.out.trans HW.out)
      obtain ⟨s0, s1⟩ := B1x.out.gr HW.out
      obtain ⟨b3, o3, e3, h3⟩ := (RD.out.gr HW.out).at hlt
      have c3 := h3 k hlt
      have rl := OB.out k hlt
      obtain ⟨b4, o4, e4, h4⟩ := (hr1.out.gr GW.out).at rl
      obtain ⟨b5, o5, e5, h5⟩ := (hs1.out.gr GW.out).at rl
      have c4 := h4 _ rl
      have c5 := h5 _ rl
      have f0 := HF.out _ rl
      have g0 := HG.out _ rl
      obtain ⟨⟨x0, x1⟩, y0, y1⟩ := BD.out k hk
      obtain ⟨⟨x2, x3⟩, y2, y3⟩ := BD.out (k + 1) hlt
      have rli : ((R k : Nat) : Int) < (n : Int) := by omega
      have E1 : areN f g R (k + 1) = areN f g R k + f (R k) * (2 * sm (fun q => g (R q)) k + g (R k)) := rfl
      have E2 : sm (fun q => g (R q)) (k + 1) = sm (fun q => g (R q)) k + g (R k) := rfl
      have E3 := Lib.hid E1
      have E4 := Lib.hid E2
      subst e3
      subst e4
      subst e5
      rw [E1] at x2 x3
      clear h3 h4 h5 rl E1 E2 y2 y3
      generalize areN f g R k = tw at *
      generalize sm (fun q => g (R q)) k = sn at *
      generalize f (R k) = fx at *
      generalize g (R k) = gx at *
      generalize R k = r at *
      have m1 := mul_bd (a := fx) (b := 2 * sn + gx) (A := 1000) (B := 21000) (by omega) (by omega) (by omega) (by omega)
      have q1 : IntKind.i64.wrap (2 * sn) = 2 * sn := IntWalk.i64_in _ (by omega)
      have q2 : IntKind.i64.wrap (2 * sn + gx) = 2 * sn + gx := IntWalk.i64_in _ (by omega)
      have q3 : IntKind.i64.wrap (fx * (2 * sn + gx)) = fx * (2 * sn + gx) := IntWalk.i64_in _ (by omega)
      have q4 : IntKind.i64.wrap (tw + fx * (2 * sn + gx)) = tw + fx * (2 * sn + gx) := IntWalk.i64_in _ (by omega)
      have q7 : IntKind.i64.wrap (sn + gx) = sn + gx := IntWalk.i64_in _ (by omega)
      clear m1 x0 x1 x2 x3
      go_wp2_with fail
      go_quiet (fail)
      go_wp2_with fail
      go_roundw
      case rel => exact ⟨k + 1, hlt, by go_num, by rw [E3.out], by rw [E4.out], Lib.hid (HW.out.drewN _)⟩
      case measure => simp [intOf]; omega
    · obtain rfl : k = n := by omega
      obtain ⟨⟨x0, x1⟩, y0, y1⟩ := BD.out k hk
      obtain ⟨r0, r1, r2, r3, _⟩ := B3x.out.gr HW.out
      have B2' := Lib.hid (B2x.out.gr HW.out)
      have GW := Lib.hid (G2.out.trans HW.out)
      clear hlt
      generalize areN f g R k = tw at *
      go_wp2_with (go_at_call 42; (with_reducible refine (CX.out _ x0 x1 _).mono ?_); rintro e w3 ⟨rfl, g3⟩; have G3 := Lib.hid (GW.out.trans g3); obtain ⟨k0, k1, k2, k3⟩ := B2'.out.gr g3; clear g3)
      obtain ⟨z0, z1, _⟩ := (show Box2 w3 (w.heap.size + 1) 0 0 from ⟨k0, k1, k2, k3⟩).put (x' := rN tw (2 * sf * sg)) (y' := rD tw (2 * sf * sg))
      refine bodyPost_ret (v := .tuple #[.agg #[.int .i64 (rN tw (2 * sf * sg)), .int .i64 (rD tw (2 * sf * sg))], .int .i64 0]) (by simp [results, Tryd.results40, go_sem, z0, z1]) rfl ⟨rfl, ?_⟩
      repeat (first | exact G3.out | refine Gr.setCell ?_ (by simp; omega) _ | refine Gr.setCell ?_ (by simp) _ | refine Gr.alloc ?_ _ | refine Gr.drewN ?_ _ | refine Gr.drew ?_)

def f9 (i : Nat) : Int := if i = 0 then 1 else if i = 1 then 2 else if i = 2 then 1 else 0
def g9 (i : Nat) : Int := if i = 0 then 3 else if i = 1 then 0 else if i = 2 then 1 else 0
theorem v9 : VO 3 3 f9 g9 := vO_iff.1 (by decide +kernel)
theorem f9_nonneg (i : Nat) : 0 ≤ f9 i ∧ 0 ≤ g9 i := by unfold f9 g9; repeat' split
                                                        all_goals decide
theorem e9 : rN (areN f9 g9 (rowN f9 g9 3) 3) (2 * sm f9 3 * sm g9 3) = 13 ∧ rD (areN f9 g9 (rowN f9 g9 3) 3) (2 * sm f9 3 * sm g9 3) = 16 := by decide +kernel
theorem rd3 (w w' : World) (p q r : Int) (f : Nat → Int) (hf : f 0 = p ∧ f 1 = q ∧ f 2 = r) (g : Gr (w.alloc (.cells #[.int .i64 p, .int .i64 q, .int .i64 r] 3)) w') {b : Nat} (hb : w.heap.size = b) : RdI w' (some ⟨b, 0, none⟩) 3 f := by
  refine .inr ⟨b, 0, rfl, fun i hi => ?_⟩
  rw [Nat.zero_add]
  match i, hi with
  | 0, _ => rw [hf.1]; exact (g.fresh' hb rfl).1
  | 1, _ => rw [hf.2.1]; exact (g.fresh' hb rfl).1
  | 2, _ => rw [hf.2.2]; exact (g.fresh' hb rfl).1

set_option maxHeartbeats 1000000 in
set_option maxRecDepth 100000 in
theorem Awake_any (w : World) : Calls Tryd.prog 9 #[] w (RetB true w) := by
  have C := Lib.hid (fun (b1 b2 : Nat) (w' : World) (hr : RdI w' (some ⟨b1, 0, none⟩) 3 f9) (hs : RdI w' (some ⟨b2, 0, none⟩) 3 g9) => Area_ok _ _ 3 3 3 f9 g9 w' hr hs (fun i => (f9_nonneg i).1) (fun i => (f9_nonneg i).2) v9)
  rw [e9.1, e9.2] at C
  go_enter Tryd.func9, Tryd.ntmps9
  go_wp2_with (go_at_call 40; (with_reducible refine (C.out _ _ _ (rd3 w _ 1 2 1 f9 (by decide) ((Gr.refl _).alloc _) rfl) (rd3 _ _ 3 0 1 g9 (by decide) (Gr.refl _) (by simp))).mono ?_); rintro e w1 ⟨rfl, g1⟩; have G1 := Lib.hid ((((Gr.refl w).alloc _).alloc _).trans g1); clear g1)
  go_ret
  refine ⟨rfl, ?_⟩
  repeat (first | exact G1.out | refine Gr.alloc ?_ _ | refine Gr.drewN ?_ _ | refine Gr.drew ?_)

end Go.Proofs.YtohcnicadbpbbaaDoor
