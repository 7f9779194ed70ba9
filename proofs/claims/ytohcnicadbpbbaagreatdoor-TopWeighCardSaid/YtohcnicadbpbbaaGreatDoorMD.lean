/- Contracts of chapter 7: slices.SortStableFunc of at most 20 outcomes, and the row. Contracts of chapter 7: the area under the curve, and Awake. Contracts of chapter 7: the row of the reference. Contracts of chapter 7: the area of the reference, how far apart, and the pairs, of the program and of the reference. Contracts of chapter 7: the cut of k of the reference. Contracts of chapter 7: the cut of k of the reference, and what it keeps. -/
import Derived.Test.YtohcnicadbpbbaaGreatDoorMC
import Derived.Deep.OwnRows
namespace Go.Proofs.YtohcnicadbpbbaaGreatDoor
open Go.RowKit Go.Firn

theorem Tryz.info3 : (Tryz.prog.info? 3).map (fun i => (i.zero, i.size, i.bytes)) = some (some (.int .i64 0), 1, 8) := by kernel_rfl

set_option maxHeartbeats 2000000 in
theorem stable_any (a a2 : Option Addr) (n c d : Nat) (f g : Nat → Int) (u v : Value) (b cap m : Nat) (R : Nat → Nat) (w0 w : World) (hm : m ≤ 19) (g0 : Gr w0 w) (hb : w0.heap.size ≤ b)
    (hr : RdI w0 a n f) (hs : RdI w0 a2 n g) (hf : ∀ k, k < n → 0 ≤ f k ∧ f k ≤ 1000) (hg : ∀ k, k < n → 0 ≤ g k ∧ g k ≤ 1000) (hR : ∀ p, p < m → R p < n) (hw : RowN w b m R) :
    Calls Tryz.prog 77 #[.slice (some ⟨b, 0, none⟩) m cap, .int .i64 m, .func (.func 48) #[.agg #[.slice a n c, .slice a2 n d, u, v]] #[]] w fun e w' =>
      e = .returned (.tuple #[]) ∧ Wr b w w' ∧ RowN w' b m (insO (fun i j => decide (cmpO f g i j < 0)) (m - 1) 1 R) := by
  have C := Lib.hid (ins_any a a2 n c d f g u v b cap m R w0 w (by omega) g0 hb hr hs hf hg hR hw)
  have q : (m : Int) ≤ 19 := by omega
  generalize insO (fun i j => decide (cmpO f g i j < 0)) (m - 1) 1 R = R1 at *
  clear hr hs hf hg hR hw g0 hb
  go_enter Tryz.func77, Tryz.ntmps77
  go_wp2_with fail
  go_loopw [7, 8] (fun y z wr => y = .int .i64 0 ∧ z = .int .i64 20 ∧ wr = w) (fun _ _ _ => 0)
  case atStart => exact ⟨rfl, rfl, rfl⟩
  case round =>
    obtain ⟨rfl, rfl, rfl⟩ := hrel
    go_wp2_with (go_at_call 96; (with_reducible refine C.out.mono ?_); rintro e w1 ⟨rfl, h1, h2⟩; have H1 := Lib.hid h1; have H2 := Lib.hid h2; clear h1 h2)
    go_loopw [6, 7, 8, 9] (fun x y z _ wr => x = .int .i64 20 ∧ y = .int .i64 0 ∧ z = .int .i64 20 ∧ wr = w1) (fun _ _ _ _ _ => 0)
    case atStart => exact ⟨rfl, rfl, rfl, rfl⟩
    case round =>
      obtain ⟨rfl, rfl, rfl, rfl⟩ := hrel
      go_wp2_with fail
      go_end0
      exact ⟨rfl, H1.out, H2.out⟩

theorem SortStable_any (a a2 : Option Addr) (n c d : Nat) (f g : Nat → Int) (u v : Value) (b cap m : Nat) (R : Nat → Nat) (w0 w : World) (hm : m ≤ 19) (g0 : Gr w0 w) (hb : w0.heap.size ≤ b)
    (hr : RdI w0 a n f) (hs : RdI w0 a2 n g) (hf : ∀ k, k < n → 0 ≤ f k ∧ f k ≤ 1000) (hg : ∀ k, k < n → 0 ≤ g k ∧ g k ≤ 1000) (hR : ∀ p, p < m → R p < n) (hw : RowN w b m R) :
    Calls Tryz.prog 58 #[.slice (some ⟨b, 0, none⟩) m cap, .func (.func 48) #[.agg #[.slice a n c, .slice a2 n d, u, v]] #[]] w fun e w' =>
      e = .returned (.tuple #[]) ∧ Wr b w w' ∧ RowN w' b m (insO (fun i j => decide (cmpO f g i j < 0)) (m - 1) 1 R) := by
  have C := Lib.hid (stable_any a a2 n c d f g u v b cap m R w0 w hm g0 hb hr hs hf hg hR hw)
  generalize insO (fun i j => decide (cmpO f g i j < 0)) (m - 1) 1 R = R1 at *
  clear hr hs hf hg hR hw g0 hb
  go_enter Tryz.func58, Tryz.ntmps58
  go_wp2_with (go_at_call 77; (with_reducible refine C.out.mono ?_); rintro e w1 ⟨rfl, h1, h2⟩)
  go_end0
  exact ⟨rfl, h1, h2⟩

/-- A slice of ints of the call's own. -/
def RetI1 (n : Nat) (f : Nat → Int) (w : World) (e : Ending) (w' : World) : Prop :=
  ∃ a c, e = .returned (.slice a n c) ∧ n ≤ c ∧ c ≤ maxLen ∧ RdI w' a n f ∧ Gr w w'

/-- The row of the call's own as numbers. -/
theorem OwnI.rowN {w0 w : World} {v : Value} {n : Nat} (h : OwnI w0 3 w v n (fun i => (i : Int))) (hn : 0 < n) : ∃ b c, v = .slice (some ⟨b, 0, none⟩) n c ∧ n ≤ c ∧ c ≤ maxLen ∧ w0.heap.size ≤ b ∧ RowN w b n id := by
  have h0 := h.1
  obtain ⟨hl, hv⟩ := h.1
  rcases hv with ⟨rfl, hz⟩ | ⟨b, cap, cur, rfl, hb, hg, hnc, hcm, hcs, htake⟩
  · omega
  · refine ⟨b, cap, rfl, hnc, hcm, hb, fun p hp => ?_⟩
    have hc := h0.cells (g := b) rfl p (.int .i64 (p : Int)) (by simp [ints, hp])
    have hadd : (⟨b, 0, none⟩ : Addr).add p = ⟨b, p, none⟩ := by rw [add_flat rfl]; simp
    rw [hadd] at hc
    refine ⟨hc, ?_⟩
    unfold World.frozen?
    rw [hg]
    simp

set_option maxHeartbeats 2000000 in
set_option maxRecDepth 100000 in
theorem row_any (a a2 : Option Addr) (n c d : Nat) (f g : Nat → Int) (u v : Value) (w : World) (hn : 0 < n ∧ n ≤ 10) (hr : RdI w a n f) (hs : RdI w a2 n g)
    (hf : ∀ k, k < n → 0 ≤ f k ∧ f k ≤ 1000) (hg : ∀ k, k < n → 0 ≤ g k ∧ g k ≤ 1000) :
    Calls Tryz.prog 35 #[.agg #[.slice a n c, .slice a2 n d, u, v]] w (RetI1 n (fun p => (rowN f g n p : Int)) w) := by
  obtain ⟨W0, hW0⟩ : ∃ W0, w.alloc (.cells #[.slice a n c, .slice a2 n d, u, v] 57) = W0 := ⟨_, rfl⟩
  have G0 := Lib.hid (show Gr w W0 by rw [← hW0]; exact (Gr.refl w).alloc _)
  have B := Lib.hid (show Box4 W0 w.heap.size (.slice a n c) (.slice a2 n d) u v by rw [← hW0]; exact Box4.new rfl)
  have hmf : ∀ (fn : Fn) (first cap : Array Value) (w : World), (Instr.makeFunc fn first cap).run Tryz.prog w = .ok (.func fn first cap) w := fun _ _ _ _ => rfl
  have CS := Lib.hid (fun (wz : World) (k : Gr W0 wz) (b cap : Nat) (hb : W0.heap.size ≤ b) (hw : RowN wz b n id) => SortStable_any a a2 n c d f g u v b cap n id W0 wz (by omega) k hb (hr.gr G0.out) (hs.gr G0.out) hf hg (fun p hp => hp) hw)
  have e : insO (fun i j => decide (cmpO f g i j < 0)) (n - 1) 1 id = rowN f g n := rfl
  rw [e] at CS
  generalize rowN f g n = R at *
  obtain ⟨p0, p1, p2, p3, _⟩ := B.out
  clear hr hs hf hg e
  go_enter Tryz.func35, Tryz.ntmps35
  go_wp2_with fail
  go_loopw [3, 4, 9] (fun out _ i wr => ∃ k : Nat, k ≤ n ∧ i = .int .i64 k ∧ OwnI W0 3 wr out k (fun i => (i : Int))) (fun _ _ i _ => n - (intOf i).toNat)
  case atStart => exact ⟨0, by omega, rfl, OwnI.nil' (by first | exact (Gr.refl _).drew | exact Gr.refl _) _ _⟩
  case round =>
    obtain ⟨k, hk, rfl, hown⟩ := hrel
    by_cases hlt : k < n
    · have hlti : (k : Int) < (n : Int) := by omega
      have hk9 : k < 1000000000 := by omega
      go_wp2_with (at_builtin; go_must (refine wpList_app_int rfl _ _ 22 3 rfl Tryz.underlying22 Tryz.info3 _ k _ rfl (hown.alloc _) _ _ rfl (cell_new1 _ _ _) rfl hk9 ?_); intro v1 w1 hown1 _)
      go_roundw
      case rel => exact ⟨k + 1, by omega, by go_num, hown1⟩
      case measure => simp [intOf]; omega
    · have : k = n := by omega
      subst this
      obtain ⟨b, cap, rfl, h1, h2, h3, h4⟩ := OwnI.rowN hown hn.1
      obtain ⟨z0, z1, z2, z3, _⟩ := B.out.gr hown.2
      have C := Lib.hid (CS.out _ hown.2 b cap h3 h4)
      have GG := Lib.hid hown.2
      clear hown h4
      go_wp2_with (go_at_call 58; (with_reducible refine C.out.mono ?_); rintro e w1 ⟨rfl, k1, k2⟩)
      go_ret
      refine ⟨_, _, rfl, h1, h2, .inr ⟨b, 0, rfl, fun i hi => ?_⟩, G0.out.trans (k1.gr GG.out h3)⟩
      rw [Nat.zero_add]; exact (k2 i hi).1

end Go.Proofs.YtohcnicadbpbbaaGreatDoor

namespace Go.Proofs.YtohcnicadbpbbaaGreatDoor
open Go.RowKit Go.Firn

theorem are_bd {f g : Nat → Int} {R : Nat → Nat} {n : Nat} (hn : n ≤ 10) (hf : ∀ k, k < n → 0 ≤ f (R k) ∧ f (R k) ≤ 1000) (hg : ∀ k, k < n → 0 ≤ g (R k) ∧ g (R k) ≤ 1000) {k : Nat} (hk : k ≤ n) :
    (0 ≤ areN f g R k ∧ areN f g R k ≤ 210000000) ∧ 0 ≤ sm (fun q => g (R q)) k ∧ sm (fun q => g (R q)) k ≤ 10000 := by
  have s : ∀ p, p ≤ n → 0 ≤ sm (fun q => g (R q)) p ∧ sm (fun q => g (R q)) p ≤ 10000 := fun p hp => by
    have := sm_bd (f := fun q => g (R q)) (B := 1000) (k := p) (fun i hi => hg i (by omega))
    omega
  have t := sm_bd (f := fun p => f (R p) * (2 * sm (fun q => g (R q)) p + g (R p))) (B := 21000000) (k := k) (fun i hi => by
    have a := s i (by omega)
    have b := hf i (by omega)
    have c := hg i (by omega)
    have m := mul_bd (a := f (R i)) (b := 2 * sm (fun q => g (R q)) i + g (R i)) (A := 1000) (B := 21000) (by omega) b.2 (by omega) (by omega)
    exact ⟨Int.mul_nonneg b.1 (by omega), by omega⟩)
  refine ⟨?_, s k hk⟩
  unfold areN
  omega
theorem prod_bd {a b : Int} (ha : 0 < a ∧ a ≤ 1000000) (hb : 0 < b ∧ b ≤ 1000000) : 0 < a * b ∧ a * b ≤ 1000000000000 :=
  ⟨Int.mul_pos ha.1 hb.1, (mul_bd (A := 1000000) (B := 1000000) (by omega) ha.2 (by omega) hb.2).2⟩

/-- The error of odds. -/
def errO (v : Bool) : Int := if v then 0 else 70
theorem okN_no {E : Int} (h : E ≠ 0) (x : Int) : okN E x = 0 := by unfold okN; rw [if_neg h]

theorem sm_pos_bd {f : Nat → Int} {n : Nat} (h : VW n f) : 0 < sm f n ∧ sm f n ≤ 10000 := by
  have a := (sm_bd (f := f) (B := 1000) (k := n) h.ok).2
  have b := h.few
  exact ⟨h.pos, by omega⟩

set_option maxHeartbeats 2000000 in
set_option maxRecDepth 100000 in
theorem Area_no (a a2 : Option Addr) (n c m d : Nat) (f g : Nat → Int) (w : World) (hn : n ≤ 1000) (hm : m ≤ 1000) (hr : RdI w a n f) (hs : RdI w a2 m g) (hv : vO n m f g = false) :
    Calls Tryz.prog 20 #[.agg #[.slice a n c, .slice a2 m d]] w (RetRE 0 0 70 w) := by
  obtain ⟨W0, hW0⟩ : ∃ W0, (w.alloc (.cells #[.slice a n c, .slice a2 m d] 24)).alloc (.cells #[.int .i64 0, .int .i64 0] 28) = W0 := ⟨_, rfl⟩
  have G0 := Lib.hid (show Gr w W0 by rw [← hW0]; exact ((Gr.refl w).alloc _).alloc _)
  have B1 := Lib.hid (show BoxO W0 w.heap.size (.slice a n c) (.slice a2 m d) by rw [← hW0]; exact (BoxO.new rfl).gr ((Gr.refl _).alloc _))
  have B2 := Lib.hid (show Box2 W0 (w.heap.size + 1) 0 0 by rw [← hW0]; exact Box2.new (by simp))
  have C := Lib.hid (fun w' (k : Gr w w') => newOdds_no a a2 n c m d f g w' hn hm (hr.gr k) (hs.gr k) hv)
  obtain ⟨p0, p1⟩ := B1.out
  clear hr hs hv
  go_enter Tryz.func20, Tryz.ntmps20
  go_wp2_with (go_at_call 29; (with_reducible refine (C.out _ G0.out).mono ?_); rintro e w1 ⟨rfl, g1⟩; have g1' := g1.alloc (.cells #[.slice none 0 0, .slice none 0 0, .int .i64 0, .int .i64 0] 57); have G1 := Lib.hid (G0.out.trans g1'); have N1 := Lib.hid (World.block_lt_of_cell? w1 _ (B2.out.gr g1).1); obtain ⟨k0, k1, k2, k3⟩ := B2.out.gr g1'; clear g1 g1')
  obtain ⟨z0, z1, _⟩ := (show Box2 (w1.alloc (.cells #[.slice none 0 0, .slice none 0 0, .int .i64 0, .int .i64 0] 57)) (w.heap.size + 1) 0 0 from ⟨k0, k1, k2, k3⟩).put (x' := 0) (y' := 0)
  refine bodyPost_ret (v := .tuple #[.agg #[.int .i64 0, .int .i64 0], .int .i64 70]) (by simp [results, Tryz.results20, go_sem, z0, z1]) rfl ⟨rfl, ?_⟩
  repeat (first | exact G1.out | refine Gr.setCell ?_ (by simp; omega) _ | refine Gr.setCell ?_ (by simp) _ | refine Gr.alloc ?_ _ | refine Gr.drewN ?_ _ | refine Gr.drew ?_)

set_option maxHeartbeats 4000000 in
set_option maxRecDepth 100000 in
theorem Area_ok (a a2 : Option Addr) (n c d : Nat) (f g : Nat → Int) (w : World) (hr : RdI w a n f) (hs : RdI w a2 n g) (hf : ∀ i, 0 ≤ f i) (hg : ∀ i, 0 ≤ g i) (hv : VO n n f g) :
    Calls Tryz.prog 20 #[.agg #[.slice a n c, .slice a2 n d]] w (RetRE (rN (areN f g (rowN f g n) n) (2 * sm f n * sm g n)) (rD (areN f g (rowN f g n) n) (2 * sm f n * sm g n)) 0 w) := by
  have hn := hv.noise.few
  have hn0 := hv.noise.one
  obtain ⟨W0, hW0⟩ : ∃ W0, (w.alloc (.cells #[.slice a n c, .slice a2 n d] 24)).alloc (.cells #[.int .i64 0, .int .i64 0] 28) = W0 := ⟨_, rfl⟩
  have G0 := Lib.hid (show Gr w W0 by rw [← hW0]; exact ((Gr.refl w).alloc _).alloc _)
  have B1 := Lib.hid (show BoxO W0 w.heap.size (.slice a n c) (.slice a2 n d) by rw [← hW0]; exact (BoxO.new rfl).gr ((Gr.refl _).alloc _))
  have B2 := Lib.hid (show Box2 W0 (w.heap.size + 1) 0 0 by rw [← hW0]; exact Box2.new (by simp))
  have C := Lib.hid (fun w' (k : Gr w w') => newOdds_ok a a2 n c n d f g w' (by omega) (by omega) (hr.gr k) (hs.gr k) (vO_iff.2 hv))
  have CR := Lib.hid (fun (u v : Value) w' (k : Gr w w') => row_any a a2 n c d f g u v w' ⟨hn0, hn⟩ (hr.gr k) (hs.gr k) hv.noise.ok hv.signal.ok)
  have O := ord_row hf hg (n := n) hn0
  have OB := Lib.hid (O.bd)
  have BD := Lib.hid (fun (k : Nat) (hk : k ≤ n) => are_bd (f := f) (g := g) (R := rowN f g n) hn (fun k hk => hv.noise.ok _ (O.bd k hk)) (fun k hk => hv.signal.ok _ (O.bd k hk)) hk)
  have HF := Lib.hid hv.noise.ok
  have HG := Lib.hid hv.signal.ok
  have SF := sm_pos_bd hv.noise
  have SG := sm_pos_bd hv.signal
  have PR := prod_bd (a := sm f n) (b := sm g n) (by omega) (by omega)
  have PR2 := mul_bd (a := sm f n) (b := sm g n) (A := 10000) (B := 10000) (by omega) (by omega) (by omega) (by omega)
  have hr1 := Lib.hid hr
  have hs1 := Lib.hid hs
  obtain ⟨p0, p1⟩ := B1.out
  have ED := Lib.hid (show 2 * sm f n * sm g n = 2 * (sm f n * sm g n) from Int.mul_assoc _ _ _)
  have q5 : IntKind.i64.wrap (2 * sm f n) = 2 * sm f n := IntWalk.i64_in _ (by omega)
  have q6 : IntKind.i64.wrap (2 * sm f n * sm g n) = 2 * sm f n * sm g n := by rw [ED.out]; exact IntWalk.i64_in _ (by omega)
  have CX := Lib.hid (fun (x : Int) (h0 : 0 ≤ x) (h1 : x ≤ 210000000) (w' : World) => ratio_any x (2 * sm f n * sm g n) w' (Sz.of (by omega) (by omega)) (by rw [ED.out]; exact Sz.of (by omega) (by omega)) (by rw [ED.out]; omega))
  clear hr hs hf hg hv O PR PR2 SF SG ED
  generalize hR : rowN f g n = R at *
  generalize sm f n = sf at *
  generalize sm g n = sg at *
  clear hR
  go_enter Tryz.func20, Tryz.ntmps20
  go_wp2_with (first
    | (go_at_call 29; (with_reducible refine (C.out _ G0.out).mono ?_); rintro e w1 ⟨rfl, g1⟩; have g1' := g1.alloc (.cells #[.slice a n c, .slice a2 n d, .int .i64 sf, .int .i64 sg] 57); have G1 := Lib.hid (G0.out.trans g1'); have B3 := Lib.hid (show Box4 (w1.alloc (.cells #[.slice a n c, .slice a2 n d, .int .i64 sf, .int .i64 sg] 57)) w1.heap.size (.slice a n c) (.slice a2 n d) (.int .i64 sf) (.int .i64 sg) from Box4.new rfl); have B2 := Lib.hid (B2.out.gr g1'); have B1 := Lib.hid (B1.out.gr g1'); obtain ⟨r0, r1, r2, r3, _⟩ := B3.out; clear g1 g1' p0 p1)
    | (go_at_call 35; (with_reducible refine (CR.out _ _ _ G1.out).mono ?_); rintro e w2 ⟨ar, cr, rfl, l1, l2, rd, g2⟩; have G2 := Lib.hid (G1.out.trans g2); have B2x := Lib.hid (B2.out.gr g2); have B1x := Lib.hid (B1.out.gr g2); have B3x := Lib.hid (B3.out.gr g2); have RD := Lib.hid rd; clear g2 rd r0 r1 r2 r3))
  go_loopw [6, 7, 9, 22] (fun x y _ i wr => ∃ k : Nat, k ≤ n ∧ i = .int .i64 k ∧ x = .int .i64 (areN f g R k) ∧ y = .int .i64 (sm (fun q => g (R q)) k) ∧ Hid (Gr w2 wr)) (fun _ _ _ i _ => n - (intOf i).toNat)
  case atStart => exact ⟨0, by omega, rfl, rfl, rfl, Lib.hid (by first | exact Gr.refl _ | exact (Gr.refl _).drew)⟩
  case round =>
    obtain ⟨k, hk, rfl, rfl, rfl, HW⟩ := hrel
    by_cases hlt : k < n
    · have hlti : (k : Int) < (n : Int) := by omega
      have GW := Lib.hid (G2.out.trans HW.out)
      obtain ⟨s0, s1⟩ := B1x.out.gr HW.out
      obtain ⟨b3, o3, e3, h3⟩ := (RD.out.gr HW.out).at hlt
      have c3 := h3 k hlt
      have rl := OB.out k hlt
      obtain ⟨b4, o4, e4, h4⟩ := (hr1.out.gr GW.out).at rl
      obtain ⟨b5, o5, e5, h5⟩ := (hs1.out.gr GW.out).at rl
      have c4 := h4 _ rl
      have c5 := h5 _ rl
      have f0 := HF.out _ rl
      have g0 := HG.out _ rl
      obtain ⟨⟨x0, x1⟩, y0, y1⟩ := BD.out k hk
      obtain ⟨⟨x2, x3⟩, y2, y3⟩ := BD.out (k + 1) hlt
      have rli : ((R k : Nat) : Int) < (n : Int) := by omega
      have E1 : areN f g R (k + 1) = areN f g R k + f (R k) * (2 * sm (fun q => g (R q)) k + g (R k)) := rfl
      have E2 : sm (fun q => g (R q)) (k + 1) = sm (fun q => g (R q)) k + g (R k) := rfl
      have E3 := Lib.hid E1
      have E4 := Lib.hid E2
      subst e3
      subst e4
      subst e5
      rw [E1] at x2 x3
      clear h3 h4 h5 rl E1 E2 y2 y3
      generalize areN f g R k = tw at *
      generalize sm (fun q => g (R q)) k = sn at *
      generalize f (R k) = fx at *
      generalize g (R k) = gx at *
      generalize R k = r at *
      have m1 := mul_bd (a := fx) (b := 2 * sn + gx) (A := 1000) (B := 21000) (by omega) (by omega) (by omega) (by omega)
      have q1 : IntKind.i64.wrap (2 * sn) = 2 * sn := IntWalk.i64_in _ (by omega)
      have q2 : IntKind.i64.wrap (2 * sn + gx) = 2 * sn + gx := IntWalk.i64_in _ (by omega)
      have q3 : IntKind.i64.wrap (fx * (2 * sn + gx)) = fx * (2 * sn + gx) := IntWalk.i64_in _ (by omega)
      have q4 : IntKind.i64.wrap (tw + fx * (2 * sn + gx)) = tw + fx * (2 * sn + gx) := IntWalk.i64_in _ (by omega)
      have q7 : IntKind.i64.wrap (sn + gx) = sn + gx := IntWalk.i64_in _ (by omega)
      clear m1 x0 x1 x2 x3
      go_wp2_with fail
      go_quiet (fail)
      go_wp2_with fail
      go_roundw
      case rel => exact ⟨k + 1, hlt, by go_num, by rw [E3.out], by rw [E4.out], Lib.hid (HW.out.drewN _)⟩
      case measure => simp [intOf]; omega
    · obtain rfl : k = n := by omega
      obtain ⟨⟨x0, x1⟩, y0, y1⟩ := BD.out k hk
      obtain ⟨r0, r1, r2, r3, _⟩ := B3x.out.gr HW.out
      have B2' := Lib.hid (B2x.out.gr HW.out)
      have GW := Lib.hid (G2.out.trans HW.out)
      clear hlt
      generalize areN f g R k = tw at *
      go_wp2_with (go_at_call 36; (with_reducible refine (CX.out _ x0 x1 _).mono ?_); rintro e w3 ⟨rfl, g3⟩; have G3 := Lib.hid (GW.out.trans g3); obtain ⟨k0, k1, k2, k3⟩ := B2'.out.gr g3; clear g3)
      obtain ⟨z0, z1, _⟩ := (show Box2 w3 (w.heap.size + 1) 0 0 from ⟨k0, k1, k2, k3⟩).put (x' := rN tw (2 * sf * sg)) (y' := rD tw (2 * sf * sg))
      refine bodyPost_ret (v := .tuple #[.agg #[.int .i64 (rN tw (2 * sf * sg)), .int .i64 (rD tw (2 * sf * sg))], .int .i64 0]) (by simp [results, Tryz.results20, go_sem, z0, z1]) rfl ⟨rfl, ?_⟩
      repeat (first | exact G3.out | refine Gr.setCell ?_ (by simp; omega) _ | refine Gr.setCell ?_ (by simp) _ | refine Gr.alloc ?_ _ | refine Gr.drewN ?_ _ | refine Gr.drew ?_)

def f9 (i : Nat) : Int := if i = 0 then 1 else if i = 1 then 2 else if i = 2 then 1 else 0
def g9 (i : Nat) : Int := if i = 0 then 3 else if i = 1 then 0 else if i = 2 then 1 else 0
theorem v9 : VO 3 3 f9 g9 := vO_iff.1 (by decide +kernel)
theorem f9_nonneg (i : Nat) : 0 ≤ f9 i ∧ 0 ≤ g9 i := by unfold f9 g9; repeat' split
                                                        all_goals decide
theorem e9 : rN (areN f9 g9 (rowN f9 g9 3) 3) (2 * sm f9 3 * sm g9 3) = 13 ∧ rD (areN f9 g9 (rowN f9 g9 3) 3) (2 * sm f9 3 * sm g9 3) = 16 := by decide +kernel
theorem rd3 (w w' : World) (p q r : Int) (f : Nat → Int) (hf : f 0 = p ∧ f 1 = q ∧ f 2 = r) (g : Gr (w.alloc (.cells #[.int .i64 p, .int .i64 q, .int .i64 r] 3)) w') {b : Nat} (hb : w.heap.size = b) : RdI w' (some ⟨b, 0, none⟩) 3 f := by
  refine .inr ⟨b, 0, rfl, fun i hi => ?_⟩
  rw [Nat.zero_add]
  match i, hi with
  | 0, _ => rw [hf.1]; exact (g.fresh' hb rfl).1
  | 1, _ => rw [hf.2.1]; exact (g.fresh' hb rfl).1
  | 2, _ => rw [hf.2.2]; exact (g.fresh' hb rfl).1

set_option maxHeartbeats 1000000 in
set_option maxRecDepth 100000 in
theorem Awake_any (w : World) : Calls Tryz.prog 7 #[] w (RetB true w) := by
  have C := Lib.hid (fun (b1 b2 : Nat) (w' : World) (hr : RdI w' (some ⟨b1, 0, none⟩) 3 f9) (hs : RdI w' (some ⟨b2, 0, none⟩) 3 g9) => Area_ok _ _ 3 3 3 f9 g9 w' hr hs (fun i => (f9_nonneg i).1) (fun i => (f9_nonneg i).2) v9)
  rw [e9.1, e9.2] at C
  go_enter Tryz.func7, Tryz.ntmps7
  go_wp2_with (go_at_call 20; (with_reducible refine (C.out _ _ _ (rd3 w _ 1 2 1 f9 (by decide) ((Gr.refl _).alloc _) rfl) (rd3 _ _ 3 0 1 g9 (by decide) (Gr.refl _) (by simp))).mono ?_); rintro e w1 ⟨rfl, g1⟩; have G1 := Lib.hid ((((Gr.refl w).alloc _).alloc _).trans g1); clear g1)
  go_ret
  refine ⟨rfl, ?_⟩
  repeat (first | exact G1.out | refine Gr.alloc ?_ _ | refine Gr.drewN ?_ _ | refine Gr.drew ?_)

end Go.Proofs.YtohcnicadbpbbaaGreatDoor

namespace Go.Proofs.YtohcnicadbpbbaaGreatDoor
open Go.RowKit Go.Firn

/-- Whether an outcome has neither noise nor signal. -/
def nB (f g : Nat → Int) (i : Nat) : Bool := decide (g i = 0) && decide (f i = 0)
theorem nB_nth {f g : Nat → Int} (hf : ∀ i, 0 ≤ f i) (hg : ∀ i, 0 ≤ g i) (i : Nat) : nth f g i = if nB f g i then 1 else 0 := by
  have a := hf i
  have b := hg i
  unfold nth nB
  by_cases h1 : g i = 0 <;> by_cases h2 : f i = 0 <;> simp [h1, h2]
  omega
/-- The row in block b holds F 0, F 1, .. and may be written. -/
def RowI (w : World) (b m : Nat) (F : Nat → Int) : Prop := ∀ p, p < m → w.cell? ⟨b, p, none⟩ = some (.int .i64 (F p)) ∧ w.frozen? ⟨b, p, none⟩ = false
theorem RowI.gr {w w' : World} {b m : Nat} {F : Nat → Int} (h : RowI w b m F) (g : Gr w w') : RowI w' b m F :=
  fun p hp => ⟨g.cell (h p hp).1, (Below.frozen g (World.block_lt_of_cell? w _ (h p hp).1)).trans (h p hp).2⟩
theorem RowI.set {w : World} {b m : Nat} {F : Nat → Int} (h : RowI w b m F) (q : Nat) (x : Int) : RowI (w.setCell ⟨b, q, none⟩ (.int .i64 x)) b m (fun p => if p = q then x else F p) := fun p hp => by
  refine ⟨?_, by simpa using (h p hp).2⟩
  by_cases h1 : p = q
  · subst h1
    simp only [if_pos]
    exact cell_near (h _ hp).1 _
  · simp only [if_neg h1]
    exact cell_by (h _ hp).1 (Ne.symm h1) _
theorem RowI.new (w : World) (n e : Nat) {b : Nat} (hb : w.heap.size = b) : RowI (w.alloc (.cells (madeCells #[.int .i64 0] n) e)) b n (fun _ => 0) := fun p hp => by
  have hv : (madeCells #[Value.int .i64 0] n)[p]? = some (.int .i64 0) := by simp [madeCells, hp, Nat.mod_one]
  exact (Gr.refl _).fresh' hb hv
theorem RowI.rd {w : World} {b m : Nat} {F : Nat → Int} (h : RowI w b m F) : RdI w (some ⟨b, 0, none⟩) m F := .inr ⟨b, 0, rfl, fun i hi => by rw [Nat.zero_add]; exact (h i hi).1⟩

theorem refB_A {f g : Nat → Int} (hf : ∀ i, 0 ≤ f i) (hg : ∀ i, 0 ≤ g i) {a b : Nat} (hx : nB f g a = true) (hy : nB f g b = false) : refB f g a b = true := by
  unfold refB; rw [nB_nth hf hg, nB_nth hf hg, hx, hy]; simp
theorem refB_B {f g : Nat → Int} (hf : ∀ i, 0 ≤ f i) (hg : ∀ i, 0 ≤ g i) {a b : Nat} (hx : nB f g a = false) (hy : nB f g b = true) : refB f g a b = false := by
  unfold refB; rw [nB_nth hf hg, nB_nth hf hg, hx, hy]; simp
theorem refB_S {f g : Nat → Int} (hf : ∀ i, 0 ≤ f i) (hg : ∀ i, 0 ≤ g i) {a b : Nat} (hx : nB f g a = nB f g b) : refB f g a b = if 0 < crs f g b a then true else !decide (0 < crs f g a b) && decide (b < a) := by
  unfold refB; rw [nB_nth hf hg, nB_nth hf hg, hx]; simp
theorem refB_C {f g : Nat → Int} (hf : ∀ i, 0 ≤ f i) (hg : ∀ i, 0 ≤ g i) {a b : Nat} (hx : nB f g a = nB f g b) (h1 : 0 < crs f g b a) : refB f g a b = true := by rw [refB_S hf hg hx, if_pos h1]
theorem refB_D {f g : Nat → Int} (hf : ∀ i, 0 ≤ f i) (hg : ∀ i, 0 ≤ g i) {a b : Nat} (hx : nB f g a = nB f g b) (h1 : ¬ 0 < crs f g b a) (h2 : 0 < crs f g a b) : refB f g a b = false := by rw [refB_S hf hg hx, if_neg h1, decide_eq_true h2]; rfl
theorem refB_E {f g : Nat → Int} (hf : ∀ i, 0 ≤ f i) (hg : ∀ i, 0 ≤ g i) {a b : Nat} (hx : nB f g a = nB f g b) (h1 : ¬ 0 < crs f g b a) (h2 : ¬ 0 < crs f g a b) (h3 : b < a) : refB f g a b = true := by rw [refB_S hf hg hx, if_neg h1, decide_eq_false h2, decide_eq_true h3]; rfl
theorem refB_F {f g : Nat → Int} (hf : ∀ i, 0 ≤ f i) (hg : ∀ i, 0 ≤ g i) {a b : Nat} (hx : nB f g a = nB f g b) (h1 : ¬ 0 < crs f g b a) (h2 : ¬ 0 < crs f g a b) (h3 : ¬ b < a) : refB f g a b = false := by rw [refB_S hf hg hx, if_neg h1, decide_eq_false h2, decide_eq_false h3]; rfl

end Go.Proofs.YtohcnicadbpbbaaGreatDoor

namespace Go.Proofs.YtohcnicadbpbbaaGreatDoor
open Go.RowKit Go.Firn

theorem ap_bd {f g : Nat → Int} {n : Nat} {sf sg : Int} (hn : n ≤ 10) (hf : ∀ i, i < n → 0 ≤ f i ∧ f i ≤ 1000) (hg : ∀ i, i < n → 0 ≤ g i ∧ g i ≤ 1000) (h1 : 0 < sf ∧ sf ≤ 10000) (h2 : 0 < sg ∧ sg ≤ 10000) {k : Nat} (hk : k ≤ n) :
    0 ≤ sm (fun a => max 0 (g a * sf - f a * sg)) k ∧ sm (fun a => max 0 (g a * sf - f a * sg)) k ≤ 200000000 := by
  have t := sm_bd (f := fun a => max 0 (g a * sf - f a * sg)) (B := 20000000) (k := k) (fun i hi => by
    have a := hf i (by omega)
    have b := hg i (by omega)
    have m1 := mul_bd (a := g i) (b := sf) (A := 1000) (B := 10000) (by omega) (by omega) (by omega) (by omega)
    have m2 := mul_bd (a := f i) (b := sg) (A := 1000) (B := 10000) (by omega) (by omega) (by omega) (by omega)
    omega)
  omega
theorem aa_bd {f g : Nat → Int} {n : Nat} {sf sg : Int} (hn : n ≤ 10) (hf : ∀ i, i < n → 0 ≤ f i ∧ f i ≤ 1000) (hg : ∀ i, i < n → 0 ≤ g i ∧ g i ≤ 1000) (h1 : 0 < sf ∧ sf ≤ 10000) (h2 : 0 < sg ∧ sg ≤ 10000) {k : Nat} (hk : k ≤ n) :
    0 ≤ sm (fun a => max (g a * sf - f a * sg) (-(g a * sf - f a * sg))) k ∧ sm (fun a => max (g a * sf - f a * sg) (-(g a * sf - f a * sg))) k ≤ 200000000 := by
  have t := sm_bd (f := fun a => max (g a * sf - f a * sg) (-(g a * sf - f a * sg))) (B := 20000000) (k := k) (fun i hi => by
    have a := hf i (by omega)
    have b := hg i (by omega)
    have m1 := mul_bd (a := g i) (b := sf) (A := 1000) (B := 10000) (by omega) (by omega) (by omega) (by omega)
    have m2 := mul_bd (a := f i) (b := sg) (A := 1000) (B := 10000) (by omega) (by omega) (by omega) (by omega)
    omega)
  omega

set_option maxHeartbeats 2000000 in
set_option maxRecDepth 100000 in
theorem Apart_no (a a2 : Option Addr) (n c m d : Nat) (f g : Nat → Int) (w : World) (hn : n ≤ 1000) (hm : m ≤ 1000) (hr : RdI w a n f) (hs : RdI w a2 m g) (hv : vO n m f g = false) :
    Calls Tryz.prog 22 #[.agg #[.slice a n c, .slice a2 m d]] w (RetRE 0 0 70 w) := by
  obtain ⟨W0, hW0⟩ : ∃ W0, (w.alloc (.cells #[.slice a n c, .slice a2 m d] 24)).alloc (.cells #[.int .i64 0, .int .i64 0] 28) = W0 := ⟨_, rfl⟩
  have G0 := Lib.hid (show Gr w W0 by rw [← hW0]; exact ((Gr.refl w).alloc _).alloc _)
  have B1 := Lib.hid (show BoxO W0 w.heap.size (.slice a n c) (.slice a2 m d) by rw [← hW0]; exact (BoxO.new rfl).gr ((Gr.refl _).alloc _))
  have B2 := Lib.hid (show Box2 W0 (w.heap.size + 1) 0 0 by rw [← hW0]; exact Box2.new (by simp))
  have C := Lib.hid (fun w' (k : Gr w w') => newOdds_no a a2 n c m d f g w' hn hm (hr.gr k) (hs.gr k) hv)
  obtain ⟨p0, p1⟩ := B1.out
  clear hr hs hv
  go_enter Tryz.func22, Tryz.ntmps22
  go_wp2_with (go_at_call 29; (with_reducible refine (C.out _ G0.out).mono ?_); rintro e w1 ⟨rfl, g1⟩; have g1' := g1.alloc (.cells #[.slice none 0 0, .slice none 0 0, .int .i64 0, .int .i64 0] 57); have G1 := Lib.hid (G0.out.trans g1'); have N1 := Lib.hid (World.block_lt_of_cell? w1 _ (B2.out.gr g1).1); obtain ⟨k0, k1, k2, k3⟩ := B2.out.gr g1'; clear g1 g1')
  obtain ⟨z0, z1, _⟩ := (show Box2 (w1.alloc (.cells #[.slice none 0 0, .slice none 0 0, .int .i64 0, .int .i64 0] 57)) (w.heap.size + 1) 0 0 from ⟨k0, k1, k2, k3⟩).put (x' := 0) (y' := 0)
  refine bodyPost_ret (v := .tuple #[.agg #[.int .i64 0, .int .i64 0], .int .i64 70]) (by simp [results, Tryz.results22, go_sem, z0, z1]) rfl ⟨rfl, ?_⟩
  repeat (first | exact G1.out | refine Gr.setCell ?_ (by simp; omega) _ | refine Gr.setCell ?_ (by simp) _ | refine Gr.alloc ?_ _ | refine Gr.drewN ?_ _ | refine Gr.drew ?_)

set_option maxHeartbeats 4000000 in
set_option maxRecDepth 100000 in
theorem Apart_ok (a a2 : Option Addr) (n c d : Nat) (f g : Nat → Int) (w : World) (hr : RdI w a n f) (hs : RdI w a2 n g) (hf : ∀ i, 0 ≤ f i) (hg : ∀ i, 0 ≤ g i) (hv : VO n n f g) :
    Calls Tryz.prog 22 #[.agg #[.slice a n c, .slice a2 n d]] w (RetRE (rN (apP f g n) (sm f n * sm g n)) (rD (apP f g n) (sm f n * sm g n)) 0 w) := by
  have hn := hv.noise.few
  have hn0 := hv.noise.one
  obtain ⟨W0, hW0⟩ : ∃ W0, (w.alloc (.cells #[.slice a n c, .slice a2 n d] 24)).alloc (.cells #[.int .i64 0, .int .i64 0] 28) = W0 := ⟨_, rfl⟩
  have G0 := Lib.hid (show Gr w W0 by rw [← hW0]; exact ((Gr.refl w).alloc _).alloc _)
  have B1 := Lib.hid (show BoxO W0 w.heap.size (.slice a n c) (.slice a2 n d) by rw [← hW0]; exact (BoxO.new rfl).gr ((Gr.refl _).alloc _))
  have B2 := Lib.hid (show Box2 W0 (w.heap.size + 1) 0 0 by rw [← hW0]; exact Box2.new (by simp))
  have HF := Lib.hid hv.noise.ok
  have HG := Lib.hid hv.signal.ok
  have HF0 := Lib.hid hf
  have HG0 := Lib.hid hg
  have SF := sm_pos_bd hv.noise
  have SG := sm_pos_bd hv.signal
  have PR := prod_bd (a := sm f n) (b := sm g n) (by omega) (by omega)
  have PR2 := mul_bd (a := sm f n) (b := sm g n) (A := 10000) (B := 10000) (by omega) (by omega) (by omega) (by omega)
  have hr1 := Lib.hid hr
  have hs1 := Lib.hid hs
  obtain ⟨p0, p1⟩ := B1.out
  have C := Lib.hid (fun w' (k : Gr w w') => newOdds_ok a a2 n c n d f g w' (by omega) (by omega) (hr.gr k) (hs.gr k) (vO_iff.2 hv))
  have BD := Lib.hid (fun (k : Nat) (hk : k ≤ n) => ap_bd (f := f) (g := g) (n := n) (sf := sm f n) (sg := sm g n) hn hv.noise.ok hv.signal.ok SF SG hk)
  have ED := Lib.hid (show sm f n * sm g n = sm f n * sm g n from rfl)
  have q6 : IntKind.i64.wrap (sm f n * sm g n) = sm f n * sm g n := IntWalk.i64_in _ (by omega)
  have CX := Lib.hid (fun (x : Int) (h0 : 0 ≤ x) (h1 : x ≤ 1000000000) (w' : World) => ratio_any x (sm f n * sm g n) w' (Sz.of (by omega) (by omega)) (by rw [ED.out]; exact Sz.of (by omega) (by omega)) (by rw [ED.out]; omega))
  have HSF := Lib.hid SF
  have HSG := Lib.hid SG
  unfold apP
  clear hr hs hf hg hv PR PR2 ED
  generalize sm f n = sf at *
  generalize sm g n = sg at *
  go_enter Tryz.func22, Tryz.ntmps22
  go_wp2_with (first
    | (go_at_call 29; (with_reducible refine (C.out _ G0.out).mono ?_); rintro e w1 ⟨rfl, g1⟩; have g1' := g1.alloc (.cells #[.slice a n c, .slice a2 n d, .int .i64 sf, .int .i64 sg] 57); obtain ⟨W1, hW1⟩ : ∃ W1, w1.alloc (.cells #[.slice a n c, .slice a2 n d, .int .i64 sf, .int .i64 sg] 57) = W1 := ⟨_, rfl⟩; rw [hW1] at g1'; have G1 := Lib.hid (G0.out.trans g1'); have B3 := Lib.hid (show Box4 W1 w1.heap.size (.slice a n c) (.slice a2 n d) (.int .i64 sf) (.int .i64 sg) by rw [← hW1]; exact Box4.new rfl); have B2x := Lib.hid (B2.out.gr g1'); have B1x := Lib.hid (B1.out.gr g1'); clear p0 p1; obtain ⟨p0, p1⟩ := B1x.out; clear g1 g1'))
  go_loopw [6, 7, 20] (fun x _ i wr => ∃ k : Nat, k ≤ n ∧ i = .int .i64 k ∧ x = .int .i64 (sm (fun a => max 0 (g a * sf - f a * sg)) k) ∧ Hid (Gr W1 wr)) (fun _ _ i _ => n - (intOf i).toNat)
  case atStart => exact ⟨0, by omega, rfl, rfl, Lib.hid (by first | exact Gr.refl _ | exact (Gr.refl _).drew)⟩
  case round =>
    obtain ⟨k, hk, rfl, rfl, HW⟩ := hrel
    by_cases hlt : k < n
    · have hlti : (k : Int) < (n : Int) := by omega
      have GW := Lib.hid (G1.out.trans HW.out)
      obtain ⟨t0, t1, t2, t3, _⟩ := B3.out.gr HW.out
      obtain ⟨s0, s1⟩ := B1x.out.gr HW.out
      obtain ⟨b4, o4, e4, h4⟩ := (hr1.out.gr GW.out).at hlt
      obtain ⟨b5, o5, e5, h5⟩ := (hs1.out.gr GW.out).at hlt
      have c4 := h4 _ hlt
      have c5 := h5 _ hlt
      have f0 := HF.out _ hlt
      have g0 := HG.out _ hlt
      obtain ⟨x0, x1⟩ := BD.out k hk
      obtain ⟨x2, x3⟩ := BD.out (k + 1) hlt
      have E1 : sm (fun a => max 0 (g a * sf - f a * sg)) (k + 1) = sm (fun a => max 0 (g a * sf - f a * sg)) k + max 0 (g k * sf - f k * sg) := rfl
      have E3 := Lib.hid E1
      subst e4
      subst e5
      rw [E1] at x2 x3
      clear h4 h5 E1
      generalize sm (fun a => max 0 (g a * sf - f a * sg)) k = tw at *
      generalize f k = fx at *
      generalize g k = gx at *
      have m1 := mul_bd (a := gx) (b := sf) (A := 1000) (B := 10000) (by omega) (by omega) (by omega) (by omega)
      have m2 := mul_bd (a := fx) (b := sg) (A := 1000) (B := 10000) (by omega) (by omega) (by omega) (by omega)
      have q1 : IntKind.i64.wrap (gx * sf) = gx * sf := IntWalk.i64_in _ (by omega)
      have q2 : IntKind.i64.wrap (fx * sg) = fx * sg := IntWalk.i64_in _ (by omega)
      have q3 : IntKind.i64.wrap (gx * sf - fx * sg) = gx * sf - fx * sg := IntWalk.i64_in _ (by omega)
      have z0 : max 0 (gx * sf - fx * sg) ≤ 20000000 ∧ 0 ≤ max 0 (gx * sf - fx * sg) := by omega
      have q4 : IntKind.i64.wrap (tw + max 0 (gx * sf - fx * sg)) = tw + max 0 (gx * sf - fx * sg) := IntWalk.i64_in _ (by omega)
      have q9 := z0
      clear m1 m2 x2 x3 q9
      go_wp2_with fail
      go_quiet (fail)
      go_wp2_with fail
      go_roundw
      case rel => exact ⟨k + 1, hlt, by go_num, by rw [E3.out]; congr 1; split <;> omega, Lib.hid (HW.out.drewN _)⟩
      case measure => simp [intOf]; omega
    · obtain rfl : k = n := by omega
      obtain ⟨x0, x1'⟩ := BD.out k hk
      have x1 : sm (fun a => max 0 (g a * sf - f a * sg)) k ≤ 1000000000 := by omega
      clear hlt SF SG
      obtain ⟨tw, htw⟩ : ∃ tw, sm (fun a => max 0 (g a * sf - f a * sg)) k = tw := ⟨_, rfl⟩
      rw [htw] at x0 x1 ⊢
      obtain ⟨r0, r1, r2, r3, _⟩ := B3.out.gr HW.out
      have B2' := Lib.hid (B2x.out.gr HW.out)
      have GW := Lib.hid (G1.out.trans HW.out)
      go_wp2_with (go_at_call 36; (with_reducible refine (CX.out _ x0 x1 _).mono ?_); rintro e w3 ⟨rfl, g3⟩; have G3 := Lib.hid (GW.out.trans g3); obtain ⟨k0, k1, k2, k3⟩ := B2'.out.gr g3; clear g3)
      obtain ⟨z0, z1, _⟩ := (show Box2 w3 (w.heap.size + 1) 0 0 from ⟨k0, k1, k2, k3⟩).put (x' := rN tw (sf * sg)) (y' := rD tw (sf * sg))
      refine bodyPost_ret (v := .tuple #[.agg #[.int .i64 (rN tw (sf * sg)), .int .i64 (rD tw (sf * sg))], .int .i64 0]) (by simp [results, Tryz.results22, go_sem, z0, z1]) rfl ⟨by first | rfl | (subst htw; rfl), ?_⟩
      repeat (first | exact G3.out | refine Gr.setCell ?_ (by simp; omega) _ | refine Gr.setCell ?_ (by simp) _ | refine Gr.alloc ?_ _ | refine Gr.drewN ?_ _ | refine Gr.drew ?_)

end Go.Proofs.YtohcnicadbpbbaaGreatDoor

namespace Go.Proofs.YtohcnicadbpbbaaGreatDoor
open Go.RowKit Go.Firn

def nf (L : List Nat) (i : Nat) : Int := (L.getD i 0 : Nat)
def onL (p : Nat → Bool) (n : Nat) : List Nat := (List.range n).filter p
theorem onL_succ (p : Nat → Bool) (n : Nat) : onL p (n + 1) = onL p n ++ (if p n then [n] else []) := by
  unfold onL
  rw [List.range_succ, List.filter_append]
  by_cases h : p n <;> simp [h]
theorem onL_len (p : Nat → Bool) (n : Nat) : (onL p n).length ≤ n := by
  have := List.length_filter_le p (List.range n)
  simpa [onL] using this
theorem onL_pre {p : Nat → Bool} {k : Nat} : ∀ {n : Nat}, k ≤ n → ∃ r, onL p n = onL p k ++ r := by
  intro n
  induction n with
  | zero => intro h; rw [Nat.le_zero.1 h]; exact ⟨[], by simp⟩
  | succ n ih =>
    intro h
    by_cases h1 : k ≤ n
    · obtain ⟨r, hr⟩ := ih h1
      exact ⟨r ++ (if p n then [n] else []), by rw [onL_succ, hr, List.append_assoc]⟩
    · rw [show k = n + 1 by omega]; exact ⟨[], by simp⟩
theorem onL_at {p : Nat → Bool} {n k : Nat} (hk : k < n) (hp : p k = true) : nf (onL p n) (onL p k).length = (k : Int) := by
  obtain ⟨r, e⟩ := onL_pre (p := p) (show k + 1 ≤ n by omega)
  rw [e, onL_succ, if_pos hp]
  unfold nf
  simp
theorem onL_bd {p : Nat → Bool} {n i : Nat} (h : i < (onL p n).length) : 0 ≤ nf (onL p n) i ∧ nf (onL p n) i < n := by
  have m : (onL p n).getD i 0 ∈ onL p n := by
    simp only [List.getD_eq_getElem?_getD, List.getElem?_eq_getElem h, Option.getD_some]
    exact List.getElem_mem h
  have := List.mem_range.1 (List.mem_filter.1 m).1
  unfold nf
  omega

set_option maxHeartbeats 2000000 in
theorem bit_fin : ∀ k : Nat, k < 10 → ∀ s : Nat, s < 1024 → bits BinOp.and IntKind.i64 ((s : Int) / (2 : Int) ^ k) 1 = if s.testBit k then 1 else 0 := by decide +kernel
theorem or_fin : ∀ k : Nat, k < 10 → ∀ s : Nat, s < 1024 → bits BinOp.or IntKind.i64 (s : Int) ((2 : Int) ^ k) = ((s ||| (1 <<< k) : Nat) : Int) ∧ s ||| (1 <<< k) < 1024 := by decide +kernel

end Go.Proofs.YtohcnicadbpbbaaGreatDoor

namespace Go.Proofs.YtohcnicadbpbbaaGreatDoor
open Go.RowKit Go.Firn

theorem setN_lt {R : Nat → Nat} : ∀ {k : Nat}, (∀ p, p < k → R p < 10) → setN R k < 1024
  | 0, _ => by show 0 < 1024; omega
  | k + 1, h => (or_fin (R k) (h k (by omega)) (setN R k) (setN_lt fun p hp => h p (by omega))).2
theorem shl_fin : ∀ r : Nat, r < 10 → wrap64 ((2 : Int) ^ r) = (2 : Int) ^ r ∧ IntKind.i64.wrap ((2 : Int) ^ r) = (2 : Int) ^ r := by decide +kernel
/-- The cut of k of the reference. -/
def cN (f g : Nat → Int) (n k : Nat) : List Nat := onL (setN (rowN f g n) k).testBit n

theorem kp_onL (f : Nat → Int) (p : Nat → Bool) : ∀ n, kp f (nf (onL p n)) (onL p n).length = sm (fun a => if p a then f a else 0) n
  | 0 => rfl
  | n + 1 => by
    show _ = sm (fun a => if p a then f a else 0) n + (if p n then f n else 0)
    rw [← kp_onL f p n, onL_succ]
    by_cases h : p n = true
    · rw [if_pos h, if_pos h]
      unfold kp
      rw [List.length_append]
      show sm _ (onL p n).length + f (nf (onL p n ++ [n]) (onL p n).length).toNat = _
      have e : nf (onL p n ++ [n]) (onL p n).length = (n : Int) := by unfold nf; simp
      rw [e]
      simp only [Int.toNat_natCast]
      congr 1
      refine sm_congr fun i hi => ?_
      have : nf (onL p n ++ [n]) i = nf (onL p n) i := by
        unfold nf
        simp only [List.getD_eq_getElem?_getD]
        rw [List.getElem?_append_left hi]
      rw [this]
    · rw [if_neg h, if_neg h]; simp
/-- What the cut of k keeps. -/
theorem kp_cut {f g : Nat → Int} (hf : ∀ i, 0 ≤ f i) (hg : ∀ i, 0 ≤ g i) {n k : Nat} (hn : 0 < n) (hk : k ≤ n) (q : Nat → Int) :
    kp q (nf (cN f g n k)) (cN f g n k).length = sm (fun p => q (rowN f g n p)) k := by
  have O := ord_row hf hg hn
  unfold cN
  rw [kp_onL]
  exact sm_set O.inj O.bd q hk

end Go.Proofs.YtohcnicadbpbbaaGreatDoor
