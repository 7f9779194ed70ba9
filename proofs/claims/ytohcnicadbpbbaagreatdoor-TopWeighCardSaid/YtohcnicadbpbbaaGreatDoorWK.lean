/- Contracts of chapter 7: the curve, of the program and of the reference. -/
import Derived.Test.YtohcnicadbpbbaaGreatDoorMD
import Derived.Test.YtohcnicadbpbbaaGreatDoorWq
namespace Go.Firn
open Go.RowKit
theorem RdI.grown {w w' : World} {a : Option Addr} {n : Nat} {f : Nat → Int} {row : Option Nat} (h : RdI w a n f) (g : w.grownBy w' row) (ne : ∀ p : Addr, a = some p → row ≠ some p.block) : RdI w' a n f := by
  rcases h with h | ⟨b, o, ha, hc⟩
  · exact .inl h
  · exact .inr ⟨b, o, ha, fun i hi => World.grownBy.cell g (hc i hi) (by have := ne _ ha; exact fun e => this (by rw [← e]))⟩
end Go.Firn
namespace Go.Proofs.YtohcnicadbpbbaaGreatDoor
open Go.RowKit Go.Firn

theorem Tryz.info54 : (Tryz.prog.info? 54).map (fun i => (i.zero, i.size, i.bytes)) = some (some (.agg #[.int .i64 0, .int .i64 0, .int .i64 0, .int .i64 0]), 4, 32) := by kernel_rfl
theorem zr {d : Int} (hd : 0 < d) : rN 0 d = 0 ∧ rD 0 d = 1 := by
  unfold rN rD
  rw [Int.gcd_zero_left]
  have e : ((d.natAbs : Nat) : Int) = d := by omega
  rw [e]
  exact ⟨Int.zero_ediv d, Int.ediv_self (by omega)⟩

/-- A slice of ints of the call's own, in a new block. -/
def RetI1F (n : Nat) (f : Nat → Int) (w : World) (e : Ending) (w' : World) : Prop :=
  ∃ a c, e = .returned (.slice a n c) ∧ n ≤ c ∧ c ≤ maxLen ∧ RdI w' a n f ∧ Gr w w' ∧ ∀ p : Addr, a = some p → w.heap.size ≤ p.block

set_option maxHeartbeats 2000000 in
set_option maxRecDepth 100000 in
theorem row_own (a a2 : Option Addr) (n c d : Nat) (f g : Nat → Int) (u v : Value) (w : World) (hn : 0 < n ∧ n ≤ 10) (hr : RdI w a n f) (hs : RdI w a2 n g)
    (hf : ∀ k, k < n → 0 ≤ f k ∧ f k ≤ 1000) (hg : ∀ k, k < n → 0 ≤ g k ∧ g k ≤ 1000) :
    Calls Tryz.prog 35 #[.agg #[.slice a n c, .slice a2 n d, u, v]] w (RetI1F n (fun p => (rowN f g n p : Int)) w) := by
  obtain ⟨W0, hW0⟩ : ∃ W0, w.alloc (.cells #[.slice a n c, .slice a2 n d, u, v] 57) = W0 := ⟨_, rfl⟩
  have G0 := Lib.hid (show Gr w W0 by rw [← hW0]; exact (Gr.refl w).alloc _)
  have B := Lib.hid (show Box4 W0 w.heap.size (.slice a n c) (.slice a2 n d) u v by rw [← hW0]; exact Box4.new rfl)
  have hmf : ∀ (fn : Fn) (first cap : Array Value) (w : World), (Instr.makeFunc fn first cap).run Tryz.prog w = .ok (.func fn first cap) w := fun _ _ _ _ => rfl
  have CS := Lib.hid (fun (wz : World) (k : Gr W0 wz) (b cap : Nat) (hb : W0.heap.size ≤ b) (hw : RowN wz b n id) => SortStable_any a a2 n c d f g u v b cap n id W0 wz (by omega) k hb (hr.gr G0.out) (hs.gr G0.out) hf hg (fun p hp => hp) hw)
  have e : insO (fun i j => decide (cmpO f g i j < 0)) (n - 1) 1 id = rowN f g n := rfl
  rw [e] at CS
  generalize rowN f g n = R at *
  obtain ⟨p0, p1, p2, p3, _⟩ := B.out
  clear hr hs hf hg e
  go_enter Tryz.func35, Tryz.ntmps35
  go_wp2_with fail
  go_loopw [3, 4, 9] (fun out _ i wr => ∃ k : Nat, k ≤ n ∧ i = .int .i64 k ∧ OwnI W0 3 wr out k (fun i => (i : Int))) (fun _ _ i _ => n - (intOf i).toNat)
  case atStart => exact ⟨0, by omega, rfl, OwnI.nil' (by first | exact (Gr.refl _).drew | exact Gr.refl _) _ _⟩
  case round =>
    obtain ⟨k, hk, rfl, hown⟩ := hrel
    by_cases hlt : k < n
    · have hlti : (k : Int) < (n : Int) := by omega
      have hk9 : k < 1000000000 := by omega
      go_wp2_with (at_builtin; go_must (refine wpList_app_int rfl _ _ 22 3 rfl Tryz.underlying22 Tryz.info3 _ k _ rfl (hown.alloc _) _ _ rfl (cell_new1 _ _ _) rfl hk9 ?_); intro v1 w1 hown1 _)
      go_roundw
      case rel => exact ⟨k + 1, by omega, by go_num, hown1⟩
      case measure => simp [intOf]; omega
    · have : k = n := by omega
      subst this
      obtain ⟨b, cap, rfl, h1, h2, h3, h4⟩ := OwnI.rowN hown hn.1
      obtain ⟨z0, z1, z2, z3, _⟩ := B.out.gr hown.2
      have C := Lib.hid (CS.out _ hown.2 b cap h3 h4)
      have GG := Lib.hid hown.2
      clear hown h4
      go_wp2_with (go_at_call 58; (with_reducible refine C.out.mono ?_); rintro e w1 ⟨rfl, k1, k2⟩)
      go_ret
      refine ⟨_, _, rfl, h1, h2, .inr ⟨b, 0, rfl, fun i hi => ?_⟩, G0.out.trans (k1.gr GG.out h3), fun p hp => by cases hp; exact Nat.le_trans (Gr.size G0.out) h3⟩
      rw [Nat.zero_add]; exact (k2 i hi).1

/-- The numbers of the curve. -/
def cvN (f g : Nat → Int) (n : Nat) (q : Nat → Int) (k : Nat) : Int := rN (sm (fun p => q (rowN f g n p)) k) (sm q n)
def cvD (f g : Nat → Int) (n : Nat) (q : Nat → Int) (k : Nat) : Int := rD (sm (fun p => q (rowN f g n p)) k) (sm q n)
theorem cs_bd {q : Nat → Int} {R : Nat → Nat} {n k : Nat} (hn : n ≤ 10) (hq : ∀ i, i < n → 0 ≤ q i ∧ q i ≤ 1000) (hR : ∀ p, p < n → R p < n) (hk : k ≤ n) : 0 ≤ sm (fun p => q (R p)) k ∧ sm (fun p => q (R p)) k ≤ 10000 := by
  have := sm_bd (f := fun p => q (R p)) (B := 1000) (k := k) (fun i hi => hq _ (hR i (by omega)))
  omega

set_option maxHeartbeats 2000000 in
set_option maxRecDepth 100000 in
theorem Curve_no (a a2 : Option Addr) (n c m d : Nat) (f g : Nat → Int) (w : World) (hn : n ≤ 1000) (hm : m ≤ 1000) (hr : RdI w a n f) (hs : RdI w a2 m g) (hv : vO n m f g = false) :
    Calls Tryz.prog 23 #[.agg #[.slice a n c, .slice a2 m d]] w (RetQ 0 (fun _ => 0) (fun _ => 0) (fun _ => 0) (fun _ => 0) 70 w) := by
  obtain ⟨W0, hW0⟩ : ∃ W0, (w.alloc (.cells #[.slice a n c, .slice a2 m d] 24)) = W0 := ⟨_, rfl⟩
  have G0 := Lib.hid (show Gr w W0 by rw [← hW0]; exact ((Gr.refl w).alloc _))
  have B1 := Lib.hid (show BoxO W0 w.heap.size (.slice a n c) (.slice a2 m d) by rw [← hW0]; exact BoxO.new rfl)
  have C := Lib.hid (fun w' (k : Gr w w') => newOdds_no a a2 n c m d f g w' hn hm (hr.gr k) (hs.gr k) hv)
  obtain ⟨p0, p1⟩ := B1.out
  clear hr hs hv
  go_enter Tryz.func23, Tryz.ntmps23
  go_wp2_with (go_at_call 29; (with_reducible refine (C.out _ G0.out).mono ?_); rintro e w1 ⟨rfl, g1⟩; have g1' := g1.alloc (.cells #[.slice none 0 0, .slice none 0 0, .int .i64 0, .int .i64 0] 57); have G1 := Lib.hid (G0.out.trans g1'); clear g1 g1')
  refine bodyPost_ret (v := .tuple #[.slice none 0 0, .int .i64 70]) (by simp [results, Tryz.results23, go_sem]) rfl ⟨none, 0, rfl, Nat.le_refl _, by unfold maxLen; omega, .inl rfl, ?_⟩
  repeat (first | exact G1.out | refine Gr.setCell ?_ (by simp; omega) _ | refine Gr.setCell ?_ (by simp) _ | refine Gr.alloc ?_ _ | refine Gr.drewN ?_ _ | refine Gr.drew ?_)

set_option maxHeartbeats 4000000 in
set_option maxRecDepth 100000 in
theorem Curve_ok (a a2 : Option Addr) (n c d : Nat) (f g : Nat → Int) (w : World) (hr : RdI w a n f) (hs : RdI w a2 n g) (hf : ∀ i, 0 ≤ f i) (hg : ∀ i, 0 ≤ g i) (hv : VO n n f g) :
    Calls Tryz.prog 23 #[.agg #[.slice a n c, .slice a2 n d]] w (RetQ (n + 1) (cvN f g n f) (cvD f g n f) (cvN f g n g) (cvD f g n g) 0 w) := by
  have hn := hv.noise.few
  have hn0 := hv.noise.one
  obtain ⟨W0, hW0⟩ : ∃ W0, (w.alloc (.cells #[.slice a n c, .slice a2 n d] 24)) = W0 := ⟨_, rfl⟩
  have G0 := Lib.hid (show Gr w W0 by rw [← hW0]; exact ((Gr.refl w).alloc _))
  have B1 := Lib.hid (show BoxO W0 w.heap.size (.slice a n c) (.slice a2 n d) by rw [← hW0]; exact BoxO.new rfl)
  have HF := Lib.hid hv.noise.ok
  have HG := Lib.hid hv.signal.ok
  have SF := sm_pos_bd hv.noise
  have SG := sm_pos_bd hv.signal
  have hr1 := Lib.hid hr
  have hs1 := Lib.hid hs
  have O := ord_row hf hg (n := n) hn0
  have OB := Lib.hid O.bd
  have BDF := Lib.hid (fun (k : Nat) (hk : k ≤ n) => cs_bd (q := f) (R := rowN f g n) hn hv.noise.ok O.bd hk)
  have BDG := Lib.hid (fun (k : Nat) (hk : k ≤ n) => cs_bd (q := g) (R := rowN f g n) hn hv.signal.ok O.bd hk)
  obtain ⟨A, hA⟩ : ∃ A, cvN f g n f = A := ⟨_, rfl⟩
  obtain ⟨B, hB⟩ : ∃ B, cvD f g n f = B := ⟨_, rfl⟩
  obtain ⟨C', hC'⟩ : ∃ C', cvN f g n g = C' := ⟨_, rfl⟩
  obtain ⟨D, hD⟩ : ∃ D, cvD f g n g = D := ⟨_, rfl⟩
  have EA := Lib.hid (show ∀ k, A k = rN (sm (fun p => f (rowN f g n p)) k) (sm f n) ∧ B k = rD (sm (fun p => f (rowN f g n p)) k) (sm f n) ∧ C' k = rN (sm (fun p => g (rowN f g n p)) k) (sm g n) ∧ D k = rD (sm (fun p => g (rowN f g n p)) k) (sm g n) by intro k; rw [← hA, ← hB, ← hC', ← hD]; exact ⟨rfl, rfl, rfl, rfl⟩)
  rw [hA, hB, hC', hD]
  obtain ⟨p0, p1⟩ := B1.out
  have C := Lib.hid (fun w' (k : Gr w w') => newOdds_ok a a2 n c n d f g w' (by omega) (by omega) (hr.gr k) (hs.gr k) (vO_iff.2 hv))
  have CXF := Lib.hid (fun (x : Int) (h0 : 0 ≤ x ∧ x ≤ 10000) (w' : World) => ratio_any x (sm f n) w' (Sz.of (by omega) (by omega)) (Sz.of (by omega) (by omega)) SF.1)
  have CXG := Lib.hid (fun (x : Int) (h0 : 0 ≤ x ∧ x ≤ 10000) (w' : World) => ratio_any x (sm g n) w' (Sz.of (by omega) (by omega)) (Sz.of (by omega) (by omega)) SG.1)
  have CR := Lib.hid (fun (u v : Value) w' (k : Gr w w') => row_own a a2 n c d f g u v w' ⟨hn0, hn⟩ (hr.gr k) (hs.gr k) hv.noise.ok hv.signal.ok)
  have CZ := Lib.hid (fun (w' : World) => ratio_any 0 1 w' (Sz.of (by omega) (by omega)) (Sz.of (by omega) (by omega)) (by omega))
  have e01 : rN 0 1 = 0 ∧ rD 0 1 = 1 := zr (by omega)
  rw [e01.1, e01.2] at CZ
  have Z0 := Lib.hid (show A 0 = 0 ∧ B 0 = 1 ∧ C' 0 = 0 ∧ D 0 = 1 by
    obtain ⟨x1, x2, x3, x4⟩ := EA.out 0
    rw [x1, x2, x3, x4]
    exact ⟨(zr SF.1).1, (zr SF.1).2, (zr SG.1).1, (zr SG.1).2⟩)
  clear hr hs hf hg hv O SF SG hA hB hC' hD e01
  generalize rowN f g n = R at *
  generalize sm f n = sf at *
  generalize sm g n = sg at *
  go_enter Tryz.func23, Tryz.ntmps23
  go_wp2_with (go_at_call 29; (with_reducible refine (C.out _ G0.out).mono ?_); rintro e w1 ⟨rfl, g1⟩; have g1' := g1.alloc (.cells #[.slice a n c, .slice a2 n d, .int .i64 sf, .int .i64 sg] 57); obtain ⟨W1, hW1⟩ : ∃ W1, w1.alloc (.cells #[.slice a n c, .slice a2 n d, .int .i64 sf, .int .i64 sg] 57) = W1 := ⟨_, rfl⟩; rw [hW1] at g1'; have G1 := Lib.hid (G0.out.trans g1'); have B3 := Lib.hid (show Box4 W1 w1.heap.size (.slice a n c) (.slice a2 n d) (.int .i64 sf) (.int .i64 sg) by rw [← hW1]; exact Box4.new rfl); have B1x := Lib.hid (B1.out.gr g1'); clear p0 p1 g1 g1')
  refine (CZ.out _).mono ?_
  rintro e w3 ⟨rfl, g3⟩
  go_wp2_with fail
  refine (CZ.out _).mono ?_
  rintro e w4 ⟨rfl, g4⟩
  obtain ⟨W5, hW5⟩ : ∃ W5, w4.alloc (.cells #[.int .i64 0, .int .i64 1, .int .i64 0, .int .i64 1] 54) = W5 := ⟨_, rfl⟩
  have g5 := Lib.hid (show Gr W1 W5 by rw [← hW5]; exact (g3.trans g4).alloc _)
  have HO := Lib.hid (show OwnQ W1 54 W5 (.slice (some ⟨w4.heap.size, 0, none⟩) 1 1) 1 A B C' D by rw [← hW5]; exact OwnQ.one (g3.trans g4) 54 rfl Z0.out)
  have L5 := Lib.hid (show w4.heap.size < W5.heap.size by rw [← hW5]; simp)
  obtain ⟨r0, r1, r2, r3, _⟩ := B3.out.gr g5.out
  obtain ⟨b4, hb4⟩ : ∃ b4, w4.heap.size = b4 := ⟨_, rfl⟩
  rw [hb4] at HO L5
  clear g3 g4
  go_wp2_with fail
  refine (CR.out _ _ _ (G1.out.trans g5.out)).mono ?_
  rintro e w6 ⟨ar, cr, rfl, l1, l2, rd, g6, hfr⟩
  have HO := Lib.hid (HO.out.gr g6)
  have HRD := Lib.hid rd
  have HNE := Lib.hid (show ∀ p : Addr, ar = some p → (Value.slice (some ⟨b4, 0, none⟩) 1 1).ownBlock ≠ some p.block from fun p hp e => by
    have h1 := hfr p hp
    have h2 : b4 = p.block := by simpa [Value.ownBlock] using e
    have h3 := L5.out
    omega)
  clear g6 rd hfr r0 r1 r2 r3
  obtain ⟨r0, r1, r2, r3, _⟩ := B3.out
  clear hW5 hb4 hW1 hW0
  go_wp2_with fail
  go_loopw [6, 7, 8, 10, 26] (fun x y v _ i wr => ∃ k : Nat, k ≤ n ∧ i = .int .i64 k ∧ x = .int .i64 (sm (fun p => f (R p)) k) ∧ y = .int .i64 (sm (fun p => g (R p)) k) ∧ Hid (OwnQ W1 54 wr v (k + 1) A B C' D) ∧ Hid (RdI wr ar n (fun p => (R p : Int))) ∧ Hid (∀ p : Addr, ar = some p → v.ownBlock ≠ some p.block)) (fun _ _ _ _ i _ => n - (intOf i).toNat)
  case atStart => exact ⟨0, by omega, rfl, rfl, rfl, HO, HRD, HNE⟩
  case round =>
    clear HO HRD HNE
    obtain ⟨k, hk, rfl, rfl, rfl, HO, HRD, HNE⟩ := hrel
    by_cases hlt : k < n
    · have hlti : (k : Int) < (n : Int) := by omega
      obtain ⟨av, cv, rfl, lv1, lv2, _⟩ := HO.out.rd
      have GW := Lib.hid (G1.out.trans HO.out.2)
      obtain ⟨s0, s1⟩ := B1x.out.gr HO.out.2
      obtain ⟨b3, o3, e3, h3⟩ := HRD.out.at hlt
      have c3 := h3 k hlt
      have rl := OB.out k hlt
      obtain ⟨b5, o5, e5, h5⟩ := (hr1.out.gr GW.out).at rl
      obtain ⟨b6, o6, e6, h6⟩ := (hs1.out.gr GW.out).at rl
      have c4 := h5 _ rl
      have c5 := h6 _ rl
      have f0 := HF.out _ rl
      have g0 := HG.out _ rl
      have y0 := BDF.out k hk
      have y1 := BDG.out k hk
      have y2 := BDF.out (k + 1) hlt
      have y3 := BDG.out (k + 1) hlt
      have rli : ((R k : Nat) : Int) < (n : Int) := by omega
      have E1 := Lib.hid (show sm (fun p => f (R p)) (k + 1) = sm (fun p => f (R p)) k + f (R k) from rfl)
      have E2 := Lib.hid (show sm (fun p => g (R p)) (k + 1) = sm (fun p => g (R p)) k + g (R k) from rfl)
      have EQ := Lib.hid (EA.out (k + 1))
      rw [E1.out, E2.out] at EQ
      rw [E1.out] at y2
      rw [E2.out] at y3
      subst e3
      subst e5
      subst e6
      have CF1 := Lib.hid (fun w' => CXF.out _ y2 w')
      have CG1 := Lib.hid (fun w' => CXG.out _ y3 w')
      clear h3 h5 h6 rl EA BDF BDG
      generalize sm (fun p => f (R p)) k = xs at *
      generalize sm (fun p => g (R p)) k = ys at *
      generalize f (R k) = fx at *
      generalize g (R k) = gx at *
      have q1 : IntKind.i64.wrap (xs + fx) = xs + fx := IntWalk.i64_in _ (by omega)
      have q2 : IntKind.i64.wrap (ys + gx) = ys + gx := IntWalk.i64_in _ (by omega)
      generalize hRk : R k = rk at *
      have HRk := Lib.hid hRk
      clear hRk
      go_wp2_with fail
      refine (wpIn_wide (n := 3)).1 ?_
      refine wpIn_region_held (fun w' => Gr W1 w') 13 (by kernel_rfl) rfl rfl ?_
      have hS : Gr W1 wr.drew := HO.out.2.drew
      have HO := Lib.hid (HO.out.gr ((Gr.refl wr).drew))
      have HRD := Lib.hid (HRD.out.gr ((Gr.refl wr).drew))
      iterate 7 (first
        | (refine wpAnyHIn_take 0 (v := ?_) rfl (by kernel_rfl) (by kernel_rfl) (by kernel_rfl) (by decide +kernel) (fun _ _ _ h => h) (fun _ _ _ => trivial) (by rfl) (fun w' hSw => ?_) hS ?_; rotate_left 1; (focus (have z2 := hSw.cell r2; have z3 := hSw.cell r3; go_simp; try with_reducible rfl)); simp only [Act.put, List.setIfInBounds_toArray, List.set_cons_zero, List.set_cons_succ])
        | (refine wpAnyHIn_take 1 (v := ?_) rfl (by kernel_rfl) (by kernel_rfl) (by kernel_rfl) (by decide +kernel) (fun _ _ _ h => h) (fun _ _ _ => trivial) (by rfl) (fun w' hSw => ?_) hS ?_; rotate_left 1; (focus (have z2 := hSw.cell r2; have z3 := hSw.cell r3; go_simp; try with_reducible rfl)); simp only [Act.put, List.setIfInBounds_toArray, List.set_cons_zero, List.set_cons_succ])
        | (refine wpAnyHIn_take 2 (v := ?_) rfl (by kernel_rfl) (by kernel_rfl) (by kernel_rfl) (by decide +kernel) (fun _ _ _ h => h) (fun _ _ _ => trivial) (by rfl) (fun w' hSw => ?_) hS ?_; rotate_left 1; (focus (have z2 := hSw.cell r2; have z3 := hSw.cell r3; go_simp; try with_reducible rfl)); simp only [Act.put, List.setIfInBounds_toArray, List.set_cons_zero, List.set_cons_succ])
        | (refine wpAnyHIn_take 3 (v := ?_) rfl (by kernel_rfl) (by kernel_rfl) (by kernel_rfl) (by decide +kernel) (fun _ _ _ h => h) (fun _ _ _ => trivial) (by rfl) (fun w' hSw => ?_) hS ?_; rotate_left 1; (focus (have z2 := hSw.cell r2; have z3 := hSw.cell r3; go_simp; try with_reducible rfl)); simp only [Act.put, List.setIfInBounds_toArray, List.set_cons_zero, List.set_cons_succ])
        | (refine wpAnyHIn_take 5 (v := ?_) rfl (by kernel_rfl) (by kernel_rfl) (by kernel_rfl) (by decide +kernel) (fun _ _ _ h => h) (fun _ _ _ => trivial) (by rfl) (fun w' hSw => ?_) hS ?_; rotate_left 1; (focus (have z2 := hSw.cell r2; have z3 := hSw.cell r3; go_simp; try with_reducible rfl)); simp only [Act.put, List.setIfInBounds_toArray, List.set_cons_zero, List.set_cons_succ])
        | (refine wpAnyHIn_take 6 (v := ?_) rfl (by kernel_rfl) (by kernel_rfl) (by kernel_rfl) (by decide +kernel) (fun _ _ _ h => h) (fun _ _ _ => trivial) (by rfl) (fun w' hSw => ?_) hS ?_; rotate_left 1; (focus (have z2 := hSw.cell r2; have z3 := hSw.cell r3; go_simp; try with_reducible rfl)); simp only [Act.put, List.setIfInBounds_toArray, List.set_cons_zero, List.set_cons_succ])
        | (refine wpAnyHIn_take 7 (v := ?_) rfl (by kernel_rfl) (by kernel_rfl) (by kernel_rfl) (by decide +kernel) (fun _ _ _ h => h) (fun _ _ _ => trivial) (by rfl) (fun w' hSw => ?_) hS ?_; rotate_left 1; (focus (have z2 := hSw.cell r2; have z3 := hSw.cell r3; go_simp; try with_reducible rfl)); simp only [Act.put, List.setIfInBounds_toArray, List.set_cons_zero, List.set_cons_succ]))
      refine wpAnyHIn_ready [4] (by kernel_rfl) (by simp) ?_
      refine AllHIn.cons rfl (by rfl) (fun K hK => ?_) AllHIn.nil
      go_simp
      refine ⟨trivial, ?_⟩
      refine (callsIn_wide.2 (CF1.out _)).mono ?_
      rintro e wX ⟨rfl, gX⟩
      have hS : Gr W1 wX := hS.trans gX
      have HO := Lib.hid (HO.out.gr gX)
      have HRD := Lib.hid (HRD.out.gr gX)
      refine hK.out _ _ hS ?_
      clear hK K gX
      refine wpAnyHIn_ready [8] (by kernel_rfl) (by simp) ?_
      refine AllHIn.cons rfl (by rfl) (fun K hK => ?_) AllHIn.nil
      go_simp
      refine ⟨trivial, ?_⟩
      refine (callsIn_wide.2 (CG1.out _)).mono ?_
      rintro e wX ⟨rfl, gX⟩
      have hS : Gr W1 wX := hS.trans gX
      have HO := Lib.hid (HO.out.gr gX)
      have HRD := Lib.hid (HRD.out.gr gX)
      refine hK.out _ _ hS ?_
      clear hK K gX
      iterate 1 (first
        | (refine wpAnyHIn_take 9 (v := ?_) rfl (by kernel_rfl) (by kernel_rfl) (by kernel_rfl) (by decide +kernel) (fun _ _ _ h => h) (fun _ _ _ => trivial) (by rfl) (fun w' hSw => ?_) hS ?_; rotate_left 1; (focus (skip; go_simp; try with_reducible rfl)); simp only [Act.put, List.setIfInBounds_toArray, List.set_cons_zero, List.set_cons_succ]))
      refine wpAnyHIn_ready [10] (by kernel_rfl) (by simp) ?_
      refine AllHIn.cons rfl (by rfl) (fun K hK => ?_) AllHIn.nil
      go_simp
      refine hK.out _ _ (hS.alloc _) ?_
      clear hK K
      refine wpAnyHIn_ready [11] (by kernel_rfl) (by simp) ?_
      refine AllHIn.cons rfl (by rfl) (fun K hK => ?_) AllHIn.nil
      refine wpIn_app_quad _ _ 49 54 rfl Tryz.underlying49 Tryz.info54 (.slice av (k + 1) cv) (k + 1) A B C' D rfl (HO.out.alloc _) _ rfl (cell_new4 _ _ _ _ _ _ rfl) EQ.out (by omega) ?_
      intro v1 w1 hown1 hgr hblk
      have hS := hown1.2
      refine hK.out _ _ hS ?_
      clear hK K
      iterate 1 (first
        | (refine wpAnyHIn_take 12 (v := ?_) rfl (by kernel_rfl) (by kernel_rfl) (by kernel_rfl) (by decide +kernel) (fun _ _ _ h => h) (fun _ _ _ => trivial) (by rfl) (fun w' hSw => ?_) hS ?_; rotate_left 1; (focus (skip; go_simp; try with_reducible rfl)); simp only [Act.put, List.setIfInBounds_toArray, List.set_cons_zero, List.set_cons_succ]))
      refine wpAnyHIn_done (by kernel_rfl) ?_ _
      obtain ⟨a1, c1, rfl, _, _, _⟩ := hown1.rd
      have HRD2 := Lib.hid (RdI.grown (HRD.out.gr ((Gr.refl _).alloc _)) hgr HNE.out)
      have HNE2 := Lib.hid (show ∀ p : Addr, some (⟨b3, o3, none⟩ : Addr) = some p → (Value.slice a1 (k + 1 + 1) c1).ownBlock ≠ some p.block from fun p hp e => by
        cases hp
        rcases hblk (by omega) with h | h
        · exact HNE.out _ rfl (by rw [← h]; exact e)
        · rw [h] at e
          obtain ⟨bb, oo, ee, hh⟩ := HRD.out.at hlt
          cases ee
          have hb3 : b3 < _ := World.block_lt_of_cell? _ _ (hh k hlt)
          simp at e
          omega)
      clear hblk hgr
      go_wp2_with fail
      go_roundw
      case rel => exact ⟨k + 1, hlt, by go_num, by rw [E1.out], by rw [E2.out], Lib.hid hown1, HRD2, HNE2⟩
      case measure => simp [intOf]; omega
    · obtain rfl : k = n := by omega
      obtain ⟨a1, c1, rfl, h1, h2, h3⟩ := HO.out.rd
      go_wp2_with fail
      refine bodyPost_ret (v := .tuple #[.slice a1 (k + 1) c1, .int .i64 0]) (by simp [results, Tryz.results23, go_sem]) rfl ⟨a1, c1, rfl, h1, h2, h3, G1.out.trans HO.out.2⟩

end Go.Proofs.YtohcnicadbpbbaaGreatDoor
