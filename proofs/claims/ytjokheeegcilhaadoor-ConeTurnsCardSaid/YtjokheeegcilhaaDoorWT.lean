/- Contracts of chapter 2: the program's count of chains. -/
import Derived.Test.YtjokheeegcilhaaDoorWR
import Derived.Test.YtjokheeegcilhaaDoorWS
import Derived.Test.YtjokheeegcilhaaDoorWD
import Derived.Test.YtjokheeegcilhaaDoorW36
namespace Go.Proofs.YtjokheeegcilhaaDoor
open Go.RowKit Go.Firn

theorem pasL_16 {n : Nat} {P T : Nat → Int} (hn : n ≤ 14) (i : Nat) : els (pastM n P T i).testBit 16 = pasL n P T i := by
  unfold pasL
  rw [els_more (p := (pastM n P T i).testBit) (n := n) (fun j hj => bit_ge (show pastM n P T i < 2 ^ n from mk_lt _ n) hj) (by omega)]
  exact els_congr fun j hj => by
    unfold pastM
    rw [mk_bit]
    simp [hj]
theorem pastM_small {n : Nat} {P T : Nat → Int} (hn : n ≤ 14) (i : Nat) : pastM n P T i < 65536 := by
  have h : pastM n P T i < 2 ^ n := mk_lt _ n
  have := pow14 hn
  omega
/-- A row of ends while one is added up. -/
def atE (n : Nat) (P T : Nat → Int) (g : Nat → Int) (i : Nat) (M : List Nat) (m : Nat) (y : Nat) : Int := if y = i then 1 + sgL (enF n P T) M m else g y
theorem atE_same (n : Nat) (P T : Nat → Int) (g : Nat → Int) (i : Nat) (M : List Nat) (m : Nat) : atE n P T g i M m i = 1 + sgL (enF n P T) M m := if_pos rfl
theorem atE_far (n : Nat) (P T : Nat → Int) (g : Nat → Int) {i : Nat} (M : List Nat) (m : Nat) {y : Nat} (h : y ≠ i) : atE n P T g i M m y = g y := if_neg h
theorem atE_put {w : World} {bk n i m : Nat} {P T : Nat → Int} {g : Nat → Int} {M : List Nat} {V : Nat → Int} (h : RowG w bk n (jV V)) (hV : ∀ y, y ≠ i → V y = g y) {z : Int} (hz : z = 1 + sgL (enF n P T) M m) : RowG (w.setCell ⟨bk, i, none⟩ (.int .i64 z)) bk n (jV (atE n P T g i M m)) :=
  (h.put (j := i) _).congr fun y _ => by
    show (if y = i then _ else jV _ y) = jV _ y
    unfold jV
    by_cases e : y = i
    · subst e; rw [if_pos rfl, atE_same, hz]
    · rw [if_neg e, atE_far _ _ _ _ _ _ e, hV y e]

theorem lf_ne {W W' : World} {a : Option Addr} {N be i : Nat} {v : Value} (r5 : N = 0 ∨ ∃ b o, a = some ⟨b, o, none⟩ ∧ b < W'.heap.size ∧ W.heap.size ≤ b) (hc : W.cell? ⟨be, i, none⟩ = some v) : ∀ b o, a = some ⟨b, o, none⟩ → 0 < N → b ≠ be := fun b o ea hm hb => by
  obtain ⟨b', o', ea', _, hh⟩ := r5.resolve_left (by omega)
  rw [ea] at ea'
  have := World.block_lt_of_cell? _ _ hc
  simp at ea' this
  omega

set_option maxHeartbeats 4000000 in
set_option maxRecDepth 20000 in
theorem chains1_any {n p b1 b2 bx : Nat} {P T : Nat → Int} (hp : 1 ≤ n) (hn : n ≤ 14) (adr : Option Addr) (c : Nat) (w : World) (hT : Tab w) (O : OrdB w p b1 b2 n (pastM n P T) (futM n P T)) (hbx : w.cell? ⟨bx, 0, none⟩ = some (.slice adr n c)) (hr : RdM w adr n P T) :
    Calls Tryd.prog 95 #[.pointer (some ⟨p, 0, none⟩), .pointer (some ⟨bx, 0, none⟩)] w fun e w' => e = .returned (.int .i64 (chC n P T)) ∧ Gr w w' := by
  have hmf : ∀ (fn : Fn) (first cap : Array Value) (w : World), (Instr.makeFunc fn first cap).run Tryd.prog w = .ok (.func fn first cap) w := fun _ _ _ _ => rfl
  obtain ⟨cs, hcs, _, mk0⟩ := made Tryd.underlying23 Tryd.info3 rfl (by omega) n (by omega)
  have HO := Lib.hid O
  have TT := Lib.hid hT
  have HB := Lib.hid hbx
  have CS := Lib.hid hcs
  obtain ⟨b0, o, rfl, hc⟩ := hr.at (show 0 < n by omega)
  have HC := Lib.hid (fun i (hi : i < n) => (hc i hi).2)
  obtain ⟨bl, hbl⟩ : ∃ bl, bl = w.heap.size := ⟨_, rfl⟩
  have NX := Lib.hid (show bx ≠ bl from fun e => by have := World.block_lt_of_cell? w _ hbx; simp at this; omega)
  have NB := Lib.hid (show b0 ≠ bl from fun e => by have := World.block_lt_of_cell? w _ (hc 0 hp).1; simp at this; omega)
  have LB := Lib.hid (show w.heap.size ≤ bl by omega)
  have R0 := Lib.hid ((RowG.new (w := w) (e := 3) hbl.symm hcs).congr (V' := iV fun i => if i < 0 then i else 0) fun i _ => by rfl)
  have G0 := Lib.hid ((Gr.refl w).alloc (.cells cs 3))
  clear hr hc hcs O hT
  go_enter Tryd.func95, Tryd.ntmps95
  go_wp2
  rw [← hbl]
  clear hbl hbx
  go_loopw [17] (fun s wr => ∃ k : Nat, k ≤ n ∧ s = .int .i64 k ∧ Hid (RowG wr bl n (iV fun i => if i < k then i else 0)) ∧ Hid (Gr w wr)) (fun s _ => n - (intOf s).toNat)
  case atStart => exact ⟨0, Nat.zero_le _, rfl, R0, G0⟩
  case round =>
    clear R0 G0
    obtain ⟨k, hk, rfl, hR, hG⟩ := hrel
    by_cases hlt : k < n
    · have i1 : (k : Int) < (n : Int) := by omega
      obtain ⟨d1, d2⟩ := hR.out k hlt
      rw [iV_cell] at d1
      have R2 := Lib.hid ((hR.out.put (j := k) (.int .i64 (k : Nat))).congr (V' := iV fun i => if i < k + 1 then i else 0) fun i _ => by
        show (if i = k then _ else iV _ i) = iV _ i
        unfold iV
        by_cases e : i = k
        · subst e; rw [if_pos rfl]; exact congrArg (fun n : Nat => Value.int .i64 (n : Int)) (if_pos (Nat.lt_succ_self _)).symm
        · rw [if_neg e]
          by_cases e2 : i < k
          · exact congrArg (fun n : Nat => Value.int .i64 (n : Int)) ((if_pos e2).trans (if_pos (show i < k + 1 by omega)).symm)
          · exact congrArg (fun n : Nat => Value.int .i64 (n : Int)) ((if_neg e2).trans (if_neg (show ¬ i < k + 1 by omega)).symm))
      have G2 := Lib.hid (hG.out.setAt (b := bl) (j := k) LB.out (.int .i64 (k : Nat)))
      go_wp2_with fail
      go_roundw
      case rel => exact ⟨k + 1, hlt, by go_num, R2, G2⟩
      case measure => simp [intOf]; omega
    · obtain rfl : k = n := by omega
      have i1 : ¬ (k : Int) < (k : Int) := by omega
      have RL := Lib.hid (hR.out.congr (V' := iV fun i => i) fun i hi => congrArg (fun n : Nat => Value.int .i64 (n : Int)) (if_pos hi))
      have C := Lib.hid (line_n bx b0 o k c bl k T wr (hG.out.cell HB.out) (fun i hi => hG.out.cell (HC.out i hi)) RL.out NX.out NB.out hp (by omega))
      have G9 := Lib.hid hG.out
      clear hR hG RL
      go_wp2_with (go_at_call 96; (with_reducible refine C.out.mono ?_); rintro e w3 ⟨rfl, L, hL, hRL, hW⟩; have HL := Lib.hid hL; have RL := Lib.hid hRL; have G3 := Lib.hid (hW.gr G9.out LB.out); have hb3 := G3.out.cell HB.out; clear hL hRL hW)
      clear hb3
      obtain ⟨be, hbe⟩ : ∃ be, be = w3.heap.size := ⟨_, rfl⟩
      have EB := Lib.hid (show w.heap.size ≤ be by rw [hbe]; exact G3.out.size)
      have R0 := Lib.hid ((RowG.new (w := w3) (e := 3) hbe.symm CS.out).congr (V' := jV fun _ => 0) fun i _ => by rfl)
      have NE := Lib.hid (show be ≠ bl from fun e => by have := World.block_lt_of_cell? w3 _ (RL.out 0 hp).1; simp at this; omega)
      have L0 := Lib.hid (RL.out.gr ((Gr.refl w3).alloc (.cells cs 3)))
      have G4 := Lib.hid (G3.out.alloc (.cells cs 3))
      rw [← hbe]
      clear hbe RL mk0 CS
      go_loopw [7, 33] (fun ss sq wr => ∃ (q : Nat) (g : Nat → Int), q ≤ k ∧ ss = .int .i64 (sgL (enF k P T) L q) ∧ sq = .int .i64 q ∧ Hid (Ends k P T L q g) ∧ Hid (RowG wr be k (jV g)) ∧ Hid (RowG wr bl k (iV fun i => L.getD i 0)) ∧ Hid (Gr w wr)) (fun _ sq _ => k - (intOf sq).toNat)
      case atStart => exact ⟨0, fun _ => 0, Nat.zero_le _, rfl, rfl, Lib.hid (fun p hp => by omega), R0, L0, G4⟩
      case round =>
        clear R0 L0 G4
        obtain ⟨q, g, hq, rfl, rfl, hE, hR, hLn, hG⟩ := hrel
        have sb := sgL_bd (P := P) (T := T) hn L q
        by_cases hlq : q < k
        · have i2 : (q : Int) < (k : Int) := by omega
          have cq := (hLn.out q hlq).1
          rw [iV_cell] at cq
          have hi := HL.out.lt hlq
          have OF := Lib.hid (fun m (hm : m < (pasL k P T (L.getD q 0)).length) => hE.out.of HL.out hlq hm)
          have PS := Lib.hid (pas_sum (P := P) (T := T) hn hi)
          have STEP := Lib.hid (hE.out.step HL.out hlq)
          have SN := Lib.hid (show sgL (enF k P T) L q + enF k P T (L.getD q 0) = sgL (enF k P T) L (q + 1) from rfl)
          have ML := Lib.hid (show (pasL k P T (L.getD q 0)).length ≤ 14 by have : (pasL k P T (L.getD q 0)).length ≤ k := (by unfold pasL; rw [els_length]; exact cnt_le _ _); omega)
          have C := Lib.hid (fun w' hT => list_f (pastM k P T (L.getD q 0)) w' (pastM_small hn _) hT)
          rw [pasL_16 hn] at C
          have eb := enF_bd (P := P) (T := T) hn (L.getD q 0)
          generalize L.getD q 0 = i at *
          generalize pasL k P T i = M at *
          obtain ⟨d1, d2⟩ := hR.out i hi
          rw [jV_cell] at d1
          have R1 := Lib.hid (atE_put (m := 0) (M := M) (P := P) (T := T) (i := i) hR.out (fun _ _ => rfl) (show (1 : Int) = 1 + sgL (enF k P T) M 0 from rfl))
          have G1 := Lib.hid (hG.out.setAt (b := be) (j := i) EB.out (.int .i64 1))
          have L1 := Lib.hid (hLn.out.far (b' := be) (j := i) NE.out (.int .i64 1))
          have o0 := (HO.out.gr G1.out).c0
          have o1 := ((HO.out.gr G1.out).r1 i hi).1
          have j1 : (i : Int) < (k : Int) := by omega
          generalize hs : sgL (enF k P T) L q = s at *
          generalize he : enF k P T i = ei at *
          clear hs he hE hR hLn hG
          go_wp2_with (go_at_call 70; (with_reducible refine (C.out _ (TT.out.gr G1.out)).mono ?_); rintro e w5 ⟨a, cl, rfl, q1, q2, r3, g5, r5⟩; have R3 := Lib.hid r3; have R5 := Lib.hid r5; have E5 := Lib.hid (R1.out.gr g5); have L5 := Lib.hid (L1.out.gr g5); have G5 := Lib.hid (G1.out.trans g5); have X5 := Lib.hid (lf_ne r5 (R1.out i hi).1); clear r3 r5 g5 q1 q2)
          clear d1 d2 o0 o1 R1 G1 L1 C cq
          go_loopw [49] (fun sm wx => ∃ m : Nat, m ≤ M.length ∧ sm = .int .i64 m ∧ Hid (RowG wx be k (jV (atE k P T g i M m))) ∧ Hid (Wx (fun b => b = be) w5 wx)) (fun sm _ => M.length - (intOf sm).toNat)
          case atStart => exact ⟨0, Nat.zero_le _, rfl, E5, Lib.hid (Wx.refl _ _)⟩
          case round =>
            clear E5
            obtain ⟨m, hm, rfl, hQ, hW⟩ := hrel
            have G6 := Lib.hid (hW.out.gr G5.out (fun b hb => by rw [hb]; exact EB.out))
            by_cases hlm : m < M.length
            · have j2 : (m : Int) < (M.length : Int) := by omega
              obtain ⟨b, oo, ea, hcx⟩ := R3.out.at hlm
              have nb := X5.out b oo ea (by omega)
              subst ea
              have cm := hW.out.cell (hcx m hlm) nb
              obtain ⟨y1, y2, y3⟩ := OF.out m hlm
              have SM := Lib.hid (show 1 + sgL (enF k P T) M m + enF k P T (M.getD m 0) = 1 + sgL (enF k P T) M (m + 1) by rw [sgL_succ]; omega)
              have b1 := sgL_bd (P := P) (T := T) hn M m
              have b2 := enF_bd (P := P) (T := T) hn (M.getD m 0)
              have m14 := ML.out
              unfold nf at cm
              generalize M.getD m 0 = y at *
              have cy := (hQ.out y y1).1
              rw [jV_cell, atE_far _ _ _ _ _ _ y2, y3] at cy
              obtain ⟨ci, fi⟩ := hQ.out i hi
              rw [jV_cell, atE_same] at ci
              have R2 := Lib.hid (atE_put (m := m + 1) (M := M) (P := P) (T := T) (g := g) (i := i) hQ.out (fun y e => atE_far _ _ _ _ _ _ e) SM.out).drew
              have W2 := Lib.hid (hW.out.set (bb := be) rfl i (.int .i64 (1 + sgL (enF k P T) M m + enF k P T y))).drew
              generalize sgL (enF k P T) M m = sm at *
              generalize enF k P T y = ey at *
              have jy : (y : Int) < (k : Int) := by omega
              have e1 : IntKind.i64.wrap (1 + sm + ey) = 1 + sm + ey := IntWalk.i64_in _ (by omega)
              have e2 : wrap64 (1 + sm + ey) = 1 + sm + ey := IntWalk.wrap64_in _ (by omega)
              clear b1 b2 y3 hcx
              go_upto_region 16 with fail
              go_region
              clear ci fi cy
              go_wp2_with fail
              go_roundw
              case rel => exact ⟨m + 1, hlm, by go_num, R2, W2⟩
              case measure => simp [intOf]; omega
            · obtain rfl : m = M.length := by omega
              have j2 : ¬ (M.length : Int) < (M.length : Int) := by omega
              have R2 := Lib.hid (hQ.out.congr (V' := jV fun x => if x = i then ei else g x) fun y _ => by unfold jV atE; rw [PS.out])
              have L2 := Lib.hid (L5.out.wx hW.out (fun e => NE.out e.symm))
              have ci := (R2.out i hi).1
              rw [jV_cell, if_pos rfl] at ci
              have e1 : IntKind.i64.wrap (s + ei) = s + ei := IntWalk.i64_in _ (by omega)
              have e2 : wrap64 (s + ei) = s + ei := IntWalk.wrap64_in _ (by omega)
              clear hQ sb eb
              go_wp2_with fail
              go_roundw
              case rel => exact ⟨q + 1, _, hlq, by rw [← SN.out], by go_num, STEP, R2, L2, G6⟩
              case measure => simp [intOf]; omega
        · obtain rfl : q = k := by omega
          have i2 : ¬ (q : Int) < (q : Int) := by omega
          have E := Lib.hid (show sgL (enF q P T) L q = chC q P T by rw [HL.out.sum, chC_ends hn])
          go_wp2_with fail
          go_ret
          rw [E.out]
          exact ⟨rfl, hG.out⟩

set_option maxHeartbeats 2000000 in
theorem Chains_ok (adr : Option Addr) (n c : Nat) (P T : Nat → Int) (w : World) (V : VH n P T) (hw : WfH n P T) (hr : RdM w adr n P T) (hT : Tab w) :
    Calls Tryd.prog 55 #[.slice adr n c] w (RetNE (chC n P T) 0 w) := by
  have hmf : ∀ (fn : Fn) (first cap : Array Value) (w : World), (Instr.makeFunc fn first cap).run Tryd.prog w = .ok (.func fn first cap) w := fun _ _ _ _ => rfl
  have HW := Lib.hid hw
  have TT := Lib.hid hT
  have HV := Lib.hid V
  have HR := Lib.hid hr
  have hf := V.few
  have hp := V.pos
  have G0 := Lib.hid ((Gr.refl w).alloc (.cells #[.slice adr n c] 22))
  have B0 := Lib.hid (cell_new1 w (.slice adr n c) 22)
  have b0 := B0.out
  clear hw hr hT V
  go_enter Tryd.func55, Tryd.ntmps55
  go_wp2_with (first
    | (go_at_call 66; refine (open_any adr n c P T _ HV.out HW.out (HR.out.gr G0.out)).mono ?_; rintro e w1 ⟨p, b1, b2, rfl, O, g1, l1⟩; have O1 := Lib.hid O; have G1 := Lib.hid (G0.out.trans g1); have B1 := Lib.hid (g1.cell B0.out); clear O)
    | (go_at_call 95; refine (chains1_any hp hf adr c _ (TT.out.gr G1.out) O1.out B1.out (HR.out.gr G1.out)).mono ?_; rintro e w2 ⟨rfl, g2⟩)
    | go_in)
  go_ret2
  exact ⟨rfl, G1.out.trans g2⟩

set_option maxHeartbeats 2000000 in
theorem Chains_no (adr : Option Addr) (n c : Nat) (P T : Nat → Int) (w : World) (hn : n ≤ 1000) (hw : WfH n P T) (hr : RdM w adr n P T) (hv : vH n P T = false) :
    Calls Tryd.prog 55 #[.slice adr n c] w (RetNE 0 20 w) := by
  have hmf : ∀ (fn : Fn) (first cap : Array Value) (w : World), (Instr.makeFunc fn first cap).run Tryd.prog w = .ok (.func fn first cap) w := fun _ _ _ _ => rfl
  have HW := Lib.hid hw
  have HV := Lib.hid hv
  have HR := Lib.hid hr
  have G0 := Lib.hid ((Gr.refl w).alloc (.cells #[.slice adr n c] 22))
  have b0 := cell_new1 w (.slice adr n c) 22
  clear hw hr hv
  go_enter Tryd.func55, Tryd.ntmps55
  go_wp2_with (first
    | (go_at_call 66; refine (open_bad adr n c P T _ hn HV.out HW.out (HR.out.gr G0.out)).mono ?_; rintro e w1 ⟨rfl, g1⟩; have G1 := Lib.hid (G0.out.trans g1))
    | go_in)
  go_ret2
  exact ⟨rfl, G1.out⟩

set_option maxHeartbeats 2000000 in
theorem Chain_no (adr : Option Addr) (n c : Nat) (P T : Nat → Int) (w : World) (hn : n ≤ 1000) (hw : WfH n P T) (hr : RdM w adr n P T) (hv : vH n P T = false) :
    Calls Tryd.prog 45 #[.slice adr n c] w (RetIs 0 (nf []) 20 w) := by
  have HW := Lib.hid hw
  have HV := Lib.hid hv
  have HR := Lib.hid hr
  clear hw hr hv
  go_enter Tryd.func45, Tryd.ntmps45
  go_wp2_with (first
    | (go_at_call 66; refine (open_bad adr n c P T _ hn HV.out HW.out HR.out).mono ?_; rintro e w1 ⟨rfl, g1⟩)
    | go_in)
  go_ret2
  exact ⟨none, 0, rfl, Nat.le_refl _, by unfold maxLen; omega, .inl rfl, g1⟩

end Go.Proofs.YtjokheeegcilhaaDoor
