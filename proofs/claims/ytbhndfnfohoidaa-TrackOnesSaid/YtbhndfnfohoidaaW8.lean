/- Contracts of chapter 5: what a witness tells, of the reference. -/
import Derived.Test.YtbhndfnfohoidaaW7
namespace Go.Proofs.Ytbhndfnfohoidaa
open Go.RowKit Go.Firn

set_option maxHeartbeats 2000000 in
set_option maxRecDepth 20000 in
theorem reftells_any (a : Option Addr) (n c : Nat) (X Y : Nat → Int) (V : VP n X Y) (a2 : Option Addr) (m c2 : Nat) (l : Nat → Int) (w : World) (hm : m ≤ 1000) (hmc : m ≤ c2) (hr : RdM w a n X Y) (hl : RdI w a2 m l) :
    Calls Try.prog 58 #[.slice a n c, .slice a2 m c2] w (RetTl n X Y m l w) := by
  have G0 := Lib.hid ((Gr.refl w).alloc (.cells #[.int .i64 0, .int .i64 0] 27))
  have HR := Lib.hid (hr.gr G0.out)
  have HL := Lib.hid (hl.gr G0.out)
  have HR0 := Lib.hid hr
  have HL0 := Lib.hid hl
  have n2 := V.two
  have n12 := V.few
  have HV := Lib.hid V
  clear hr hl V
  go_enter Try.func58, Try.ntmps58
  go_wp2_with fail
  go_loop [13] (fun s => ∃ j : Nat, j ≤ m ∧ s = .int .i64 j ∧ Hid (goodW n l j = true)) (fun s => m - (intOf s).toNat)
  case atStart => exact ⟨0, Nat.zero_le _, rfl, rfl⟩
  case round =>
    obtain ⟨j, hj, rfl, Hg⟩ := hrel
    by_cases hlt : j < m
    · obtain ⟨b, o, rfl, hc⟩ := HL.out.at hlt
      have c1 := hc j hlt
      have i1 : (j : Int) < m := by omega
      have i2 : (j : Int) ≤ (c2 : Int) := by omega
      have RJ := Lib.hid (show ∀ i, i < j → (w.alloc (.cells #[.int .i64 0, .int .i64 0] 27)).cell? ⟨b, o + i, none⟩ = some (.int .i64 (l i)) from fun i hi => hc i (by omega))
      have S := Lib.hid (goodW_succ n l j)
      have BD := Lib.hid (fun h => witB_bad (X := X) (goodW_stop (n := n) (l := l) hlt h))
      have GA := Lib.hid (show goodAt n l j = (decide (0 ≤ l j) && decide (l j < n) && !anyI l j (l j)) from rfl)
      clear hc hlt
      generalize l j = y at *
      by_cases h0 : 0 ≤ y
      · by_cases h1 : y < n
        · go_wp2_with fail
          go_loop [31] (fun s => ∃ k : Nat, k ≤ j ∧ s = .int .i64 k ∧ Hid (anyI l k y = false)) (fun s => j - (intOf s).toNat)
          case atStart => exact ⟨0, Nat.zero_le _, rfl, rfl⟩
          case round =>
            obtain ⟨k, hk, rfl, Hk⟩ := hrel
            clear c1
            by_cases hkj : k < j
            · have ck := RJ.out k hkj
              have k1 : (k : Int) < (j : Int) := by omega
              have SA := Lib.hid (anyI_succ l k y)
              have ST := Lib.hid (fun h => anyI_stop (l := l) (x := y) hkj h)
              clear hkj
              generalize l k = z at *
              by_cases e : z = y
              · subst e
                have W0 := Lib.hid (BD.out (by rw [GA.out, ST.out rfl]; simp))
                have t1 : (z == z) = true := by simp
                clear S BD GA ST SA
                go_wp2_with fail
                refine bodyPost_ret (v := .tuple #[.agg #[.int .i64 0, .int .i64 0], .bool false]) (by simp [results, Try.results58, go_sem]) rfl (RetTl.no 0 0 W0.out ?_)
                repeat (first | exact Gr.refl _ | refine Gr.alloc ?_ _ | refine Gr.drewN ?_ _ | refine Gr.drew ?_ | refine Gr.setCell ?_ (by simp) _)
              · have t1 : (y == z) = false := by simp; omega
                have S' := Lib.hid (show anyI l (k + 1) y = false by rw [SA.out, Hk.out]; simp [e])
                clear e
                go_wp2_with fail
                go_round
                case rel => exact ⟨k + 1, by omega, by go_num, S'⟩
                case measure => simp [intOf]; omega
            · obtain rfl : k = j := by omega
              have S' := Lib.hid (show goodW n l (k + 1) = true by rw [S.out, Hg.out, GA.out, Hk.out]; simp; omega)
              clear S BD GA
              go_wp2_with fail
              go_roundw
              case rel => exact ⟨k + 1, by omega, by go_num, S'⟩
              case measure => simp [intOf]; omega
        · have W0 := Lib.hid (BD.out (by rw [GA.out]; simp; omega))
          have d1 : (n : Int) ≤ y := by omega
          clear S BD GA h1
          go_wp2_with fail
          refine bodyPost_ret (v := .tuple #[.agg #[.int .i64 0, .int .i64 0], .bool false]) (by simp [results, Try.results58, go_sem]) rfl (RetTl.no 0 0 W0.out ?_)
          repeat (first | exact Gr.refl _ | refine Gr.alloc ?_ _ | refine Gr.drewN ?_ _ | refine Gr.drew ?_ | refine Gr.setCell ?_ (by simp) _)
      · have W0 := Lib.hid (BD.out (by rw [GA.out]; simp; omega))
        have d1 : y < 0 := by omega
        clear S BD GA h0
        go_wp2_with fail
        refine bodyPost_ret (v := .tuple #[.agg #[.int .i64 0, .int .i64 0], .bool false]) (by simp [results, Try.results58, go_sem]) rfl (RetTl.no 0 0 W0.out ?_)
        repeat (first | exact Gr.refl _ | refine Gr.alloc ?_ _ | refine Gr.drewN ?_ _ | refine Gr.drew ?_ | refine Gr.setCell ?_ (by simp) _)
    · obtain rfl : j = m := by omega
      by_cases m2 : j = 2
      · subst m2
        obtain ⟨A, hA, eA⟩ := goodW_at Hg.out (show 0 < 2 by omega)
        obtain ⟨B, hB, eB⟩ := goodW_at Hg.out (show 1 < 2 by omega)
        obtain ⟨b2, o2, rfl, hc2⟩ := HL.out.at (show 0 < 2 by omega)
        have l0 := hc2 0 (by omega)
        have l1 := hc2 1 (by omega)
        rw [eA, Nat.add_zero] at l0
        rw [eB] at l1
        obtain ⟨b, o, rfl, hc⟩ := HR.out.at hA
        obtain ⟨pa0, pa1⟩ := hc A hA
        obtain ⟨pb0, pb1⟩ := hc B hB
        have WB := Lib.hid (show witB n X 2 l = (X A == X B) from by
          unfold witB at_
          rw [Hg.out, eA, eB]
          simp)
        have TN := Lib.hid (show tlN X Y 2 l = rN (ab (Y A - Y B)) 2 ∧ tlD X Y 2 l = rD (ab (Y A - Y B)) 2 from by
          unfold tlN tlD at_ t2N t2D
          rw [eA, eB]
          exact ⟨rfl, rfl⟩)
        have ia := HV.out.ok A hA
        have ib := HV.out.ok B hB
        have i1 : (A : Int) < n := by omega
        have i2 : (B : Int) < n := by omega
        have i3 : (0 : Int) < ((2 : Nat) : Int) := by omega
        have i4 : (1 : Int) < ((2 : Nat) : Int) := by omega
        clear hc hc2 eA eB
        generalize X A = xa at *
        generalize Y A = ya at *
        generalize X B = xb at *
        generalize Y B = yb at *
        have NE := Lib.hid (show w.heap.size ≠ b2 ∧ w.heap.size ≠ b from by
          obtain ⟨b', o', e', hc'⟩ := HL0.out.at (show 0 < 2 by omega)
          obtain ⟨b'', o'', e'', hc''⟩ := HR0.out.at hA
          simp at e' e''
          obtain ⟨rfl, rfl⟩ := e'
          obtain ⟨rfl, rfl⟩ := e''
          exact ⟨World.new_ne w _ (hc' 0 (by omega)), World.new_ne w _ (hc'' A hA).1⟩)
        have LS := Lib.hid (fun w' (g : Gr (w.alloc (.cells #[.int .i64 0, .int .i64 0] 27)) w') => show w'.cell? ⟨b2, o2, none⟩ = some (.int .i64 (A : Nat)) ∧ w'.cell? ⟨b2, o2 + 1, none⟩ = some (.int .i64 (B : Nat)) ∧ w'.cell? ⟨b, o + A * 2 + 1, none⟩ = some (.int .i64 ya) ∧ w'.cell? ⟨b, o + B * 2 + 1, none⟩ = some (.int .i64 yb) from ⟨g.cell l0, g.cell l1, g.cell pa1, g.cell pb1⟩)
        by_cases hx : xa = xb
        · have d1 : (xa == xb) = true := by simp [hx]
          have W1 := Lib.hid (show witB n X 2 l = true by rw [WB.out]; exact d1)
          obtain ⟨⟨x1, x2⟩, x3, x4⟩ := ia
          obtain ⟨⟨y1, y2⟩, y3, y4⟩ := ib
          have SZ := Lib.hid (show Sz (ya - yb) from ⟨by omega, by omega⟩)
          have e1 : IntKind.i64.wrap (ya - yb) = ya - yb := IntWalk.i64_in _ (by omega)
          have CA := Lib.hid (fun w' => size_any (ya - yb) w' SZ.out)
          have CR := Lib.hid (fun w' => Ratio_any (ab (ya - yb)) 2 w' (by have := ab_cases (ya - yb); unfold Sz; omega) (by unfold Sz; omega) (by omega))
          have TY := Lib.hid (fun w' g => RetTl.yes (Y := Y) (w := w) (w' := w') W1.out g)
          rw [TN.out.1, TN.out.2] at TY
          clear x1 x2 x3 x4 y1 y2 y3 y4 hx
          have SF := Lib.hid (fun (w' : World) (h : w'.cell? ⟨b2, o2, none⟩ = some (.int .i64 (A : Nat)) ∧ w'.cell? ⟨b2, o2 + 1, none⟩ = some (.int .i64 (B : Nat)) ∧ w'.cell? ⟨b, o + A * 2 + 1, none⟩ = some (.int .i64 ya) ∧ w'.cell? ⟨b, o + B * 2 + 1, none⟩ = some (.int .i64 yb)) (u v : Value) => show (fun (w' : World) => w'.cell? ⟨b2, o2, none⟩ = some (.int .i64 (A : Nat)) ∧ w'.cell? ⟨b2, o2 + 1, none⟩ = some (.int .i64 (B : Nat)) ∧ w'.cell? ⟨b, o + A * 2 + 1, none⟩ = some (.int .i64 ya) ∧ w'.cell? ⟨b, o + B * 2 + 1, none⟩ = some (.int .i64 yb)) ((w'.setCell ⟨w.heap.size, 0, none⟩ u).setCell ⟨w.heap.size, 1, none⟩ v) from
            ⟨cell_far (cell_far h.1 NE.out.1 _) NE.out.1 _, cell_far (cell_far h.2.1 NE.out.1 _) NE.out.1 _, cell_far (cell_far h.2.2.1 NE.out.2 _) NE.out.2 _, cell_far (cell_far h.2.2.2 NE.out.2 _) NE.out.2 _⟩)
          go_wp2_with fail
          go_quiet (fail)
          go_wp2_with fail
          go_region_held3 (fun w' => w'.cell? ⟨b2, o2, none⟩ = some (.int .i64 (A : Nat)) ∧ w'.cell? ⟨b2, o2 + 1, none⟩ = some (.int .i64 (B : Nat)) ∧ w'.cell? ⟨b, o + A * 2 + 1, none⟩ = some (.int .i64 ya) ∧ w'.cell? ⟨b, o + B * 2 + 1, none⟩ = some (.int .i64 yb))
            (first | exact LS.out _ ((Gr.refl _).drewN _) | exact LS.out _ (((Gr.refl _).drewN _).drew) | exact LS.out _ ((((Gr.refl _).drewN _).drew).trans g2) | exact LS.out _ (((Gr.refl _).drewN _).trans g2) | exact SF.out _ (LS.out _ ((((Gr.refl _).drewN _).drew).trans g2)) _ _ | exact SF.out _ (LS.out _ (((Gr.refl _).drewN _).trans g2)) _ _)
            (first
              | (go_at_call 88; refine (CA.out _).mono ?_; rintro e w1 ⟨rfl, rfl⟩)
              | (go_at_call 44; refine (CR.out _).mono ?_; rintro e w2 ⟨rfl, g2⟩; first | (have GG := Lib.hid ((((Gr.refl _).drewN _).drew).trans g2); obtain ⟨z0, y0⟩ := GG.out.fresh' (b := w.heap.size) (j := 0) (v := .int .i64 0) rfl rfl; obtain ⟨z1, y1⟩ := GG.out.fresh' (b := w.heap.size) (j := 1) (v := .int .i64 0) rfl rfl) | (have GG := Lib.hid (((Gr.refl _).drewN _).trans g2); obtain ⟨z0, y0⟩ := GG.out.fresh' (b := w.heap.size) (j := 0) (v := .int .i64 0) rfl rfl; obtain ⟨z1, y1⟩ := GG.out.fresh' (b := w.heap.size) (j := 1) (v := .int .i64 0) rfl rfl)))
          all_goals go_wp2_with fail
          refine bodyPost_ret (v := .tuple #[.agg #[.int .i64 (rN (ab (ya - yb)) 2), .int .i64 (rD (ab (ya - yb)) 2)], .bool true]) (by simp [results, Try.results58, go_sem, z0, z1]) rfl (TY.out _ ?_)
          exact ((G0.out.trans GG.out).setCell (Nat.le_refl _) _).setCell (Nat.le_refl _) _
        · have d1 : (xa == xb) = false := by simp [hx]
          have W0 := Lib.hid (show witB n X 2 l = false by rw [WB.out]; exact d1)
          clear hx WB TN LS HL HR HL0 HR0
          go_wp2_with fail
          go_quiet (fail)
          go_wp2_with fail
          go_quiet (fail)
          go_wp2_with fail
          refine bodyPost_ret (v := .tuple #[.agg #[.int .i64 0, .int .i64 0], .bool false]) (by simp [results, Try.results58, go_sem]) rfl (RetTl.no 0 0 W0.out ?_)
          repeat (first | exact Gr.refl _ | refine Gr.alloc ?_ _ | refine Gr.drewN ?_ _ | refine Gr.drew ?_ | refine Gr.setCell ?_ (by simp) _)
      · by_cases m3 : j = 3
        · subst m3
          obtain ⟨A, hA, eA⟩ := goodW_at Hg.out (show 0 < 3 by omega)
          obtain ⟨B, hB, eB⟩ := goodW_at Hg.out (show 1 < 3 by omega)
          obtain ⟨C, hC, eC⟩ := goodW_at Hg.out (show 2 < 3 by omega)
          obtain ⟨b2, o2, rfl, hc2⟩ := HL.out.at (show 0 < 3 by omega)
          have l0 := hc2 0 (by omega)
          have l1 := hc2 1 (by omega)
          have l2 := hc2 2 (by omega)
          rw [eA, Nat.add_zero] at l0
          rw [eB] at l1
          rw [eC] at l2
          obtain ⟨b, o, rfl, hc⟩ := HR.out.at hA
          obtain ⟨pa0, pa1⟩ := hc A hA
          obtain ⟨pb0, pb1⟩ := hc B hB
          obtain ⟨pc0, pc1⟩ := hc C hC
          have WB := Lib.hid (show witB n X 3 l = (decide (X A < X B) && decide (X B < X C)) from by
            unfold witB at_
            rw [Hg.out, eA, eB, eC]
            simp)
          have TN := Lib.hid (show tlN X Y 3 l = t3N X Y A B C ∧ tlD X Y 3 l = t3D X Y A B C from by
            unfold tlN tlD at_
            rw [eA, eB, eC]
            exact ⟨rfl, rfl⟩)
          have ia := HV.out.ok A hA
          have ib := HV.out.ok B hB
          have ic := HV.out.ok C hC
          have TB := Lib.hid (fun h => t3r_bd (X := X) (Y := Y) ia ib ic h)
          have E3 := Lib.hid (show t3r X Y A B C = rs (X B) (Y B) (thA (X A) (Y A) (X C) (Y C)) (thB (X A) (Y A) (X C) (Y C)) (thD (X A) (Y A) (X C) (Y C)) ∧ t3d X Y A C = thD (X A) (Y A) (X C) (Y C) ∧ t3N X Y A B C = rN (ab (t3r X Y A B C)) (2 * t3d X Y A C) ∧ t3D X Y A B C = rD (ab (t3r X Y A B C)) (2 * t3d X Y A C) from ⟨rfl, rfl, rfl, rfl⟩)
          have i1 : (A : Int) < n := by omega
          have i2 : (B : Int) < n := by omega
          have i5 : (C : Int) < n := by omega
          have i3 : (0 : Int) < ((3 : Nat) : Int) := by omega
          have i4 : (1 : Int) < ((3 : Nat) : Int) := by omega
          have i6 : (2 : Int) < ((3 : Nat) : Int) := by omega
          clear hc hc2 eA eB eC
          have NE := Lib.hid (show w.heap.size ≠ b2 ∧ w.heap.size ≠ b from by
            obtain ⟨b', o', e', hc'⟩ := HL0.out.at (show 0 < 3 by omega)
            obtain ⟨b'', o'', e'', hc''⟩ := HR0.out.at hA
            simp at e' e''
            obtain ⟨rfl, rfl⟩ := e'
            obtain ⟨rfl, rfl⟩ := e''
            exact ⟨World.new_ne w _ (hc' 0 (by omega)), World.new_ne w _ (hc'' A hA).1⟩)
          generalize t3N X Y A B C = tn at *
          generalize t3D X Y A B C = td at *
          generalize t3r X Y A B C = tr at *
          generalize t3d X Y A C = dd at *
          generalize X A = xa at *
          generalize Y A = ya at *
          generalize X B = xb at *
          generalize Y B = yb at *
          generalize X C = xc at *
          generalize Y C = yc at *
          have d1 : (((3 : Nat) : Int) == 2) = false := by rfl
          by_cases hx1 : xa < xb
          · by_cases hx2 : xb < xc
            · have W1 := Lib.hid (show witB n X 3 l = true by rw [WB.out]; simp; omega)
              have hxc : xa ≠ xc := by omega
              obtain ⟨⟨t1, t2⟩, t3, t4⟩ := TB.out hxc
              have IL := th_in ia ic hxc
              have CT := Lib.hid (fun w' => refthrough_any xa ya xc yc w' ia ic hxc)
              obtain ⟨E31, E32, E33, E34⟩ := E3.out
              generalize thA xa ya xc yc = p at *
              generalize thB xa ya xc yc = q at *
              generalize thD xa ya xc yc = d at *
              have E35 := E32.symm
              clear E32
              subst E35
              have CRe := Lib.hid (fun w' => refrest_any xb yb p q d w' ib IL)
              rw [← E31] at CRe
              have CA := Lib.hid (fun w' => size_any tr w' (by unfold Sz; omega))
              have CR := Lib.hid (fun w' => Ratio_any (ab tr) (2 * d) w' (by have := ab_cases tr; unfold Sz; omega) (by unfold Sz; omega) (by omega))
              have e1 : IntKind.i64.wrap (2 * d) = 2 * d := IntWalk.i64_in _ (by omega)
              rw [← E33, ← E34] at CR
              have TY := Lib.hid (fun w' g => RetTl.yes (Y := Y) (w := w) (w' := w') W1.out g)
              rw [TN.out.1, TN.out.2] at TY
              have LSA := Lib.hid (fun w' (g : Gr (w.alloc (.cells #[.int .i64 0, .int .i64 0] 27)) w') => show w'.cell? ⟨b2, o2, none⟩ = some (.int .i64 (A : Nat)) ∧ w'.cell? ⟨b2, o2 + 2, none⟩ = some (.int .i64 (C : Nat)) ∧ w'.cell? ⟨b, o + A * 2, none⟩ = some (.int .i64 xa) ∧ w'.cell? ⟨b, o + A * 2 + 1, none⟩ = some (.int .i64 ya) ∧ w'.cell? ⟨b, o + C * 2, none⟩ = some (.int .i64 xc) ∧ w'.cell? ⟨b, o + C * 2 + 1, none⟩ = some (.int .i64 yc) from ⟨g.cell l0, g.cell l2, g.cell pa0, g.cell pa1, g.cell pc0, g.cell pc1⟩)
              have LSB := Lib.hid (show (w.alloc (.cells #[.int .i64 0, .int .i64 0] 27)).cell? ⟨b2, o2 + 1, none⟩ = some (.int .i64 (B : Nat)) ∧ (w.alloc (.cells #[.int .i64 0, .int .i64 0] 27)).cell? ⟨b, o + B * 2, none⟩ = some (.int .i64 xb) ∧ (w.alloc (.cells #[.int .i64 0, .int .i64 0] 27)).cell? ⟨b, o + B * 2 + 1, none⟩ = some (.int .i64 yb) from ⟨l1, pb0, pb1⟩)
              have d2 : decide (xa < xb) = true := by simpa using hx1
              have d3 : decide (xb < xc) = true := by simpa using hx2
              clear ia ib ic IL t1 t2 t3 t4 hxc E31 E33 E34 E3 TB TN WB W1 HL HR HL0 HR0
              go_wp2_with fail
              go_quiet (fail)
              go_wp2_with fail
              go_quiet (fail)
              clear l0 l1 l2 pa0 pa1 pb0 pb1 pc0 pc1
              go_wp2_with fail
              generalize hwa : World.drewN _ _ = wa
              have GA := Lib.hid (show Gr (w.alloc (.cells #[.int .i64 0, .int .i64 0] 27)) wa by rw [← hwa]; repeat (first | exact Gr.refl _ | refine Gr.drewN ?_ _))
              clear hwa
              go_cut [10] (fun s wx => ∃ bx : Nat, s = .pointer (some ⟨bx, 0, none⟩) ∧ Hid (Box3 wx bx p q d) ∧ Hid (w.heap.size ≠ bx) ∧ Hid (Gr (w.alloc (.cells #[.int .i64 0, .int .i64 0] 27)) wx))
              case first =>
                have SW1 : w.heap.size + 1 ≤ wa.heap.size := by have := GA.out.freshSize; omega
                go_region_held3 (fun w' => w'.cell? ⟨b2, o2, none⟩ = some (.int .i64 (A : Nat)) ∧ w'.cell? ⟨b2, o2 + 2, none⟩ = some (.int .i64 (C : Nat)) ∧ w'.cell? ⟨b, o + A * 2, none⟩ = some (.int .i64 xa) ∧ w'.cell? ⟨b, o + A * 2 + 1, none⟩ = some (.int .i64 ya) ∧ w'.cell? ⟨b, o + C * 2, none⟩ = some (.int .i64 xc) ∧ w'.cell? ⟨b, o + C * 2 + 1, none⟩ = some (.int .i64 yc))
                  (first | (refine LSA.out _ ?_; (repeat (first | exact GA.out | refine Gr.trans ?_ g2 | refine Gr.drew ?_ | refine Gr.alloc ?_ _ | refine Gr.setCell ?_ (by simpa using SW1) _)); done) | go_keep)
                  (first | (go_at_call 61; refine (CT.out _).mono ?_; rintro e w2 ⟨rfl, g2⟩; obtain ⟨hc, hf⟩ := bcell g2))
                all_goals go_wp2_with fail
                · go_meet
                  have G := GA.out.drew.trans g2
                  exact ⟨_, rfl, Lib.hid (Box3.new rfl), Lib.hid (by have := G.freshSize; omega), Lib.hid (G.alloc _)⟩
                · go_meet
                  have G := (GA.out.alloc (.cells #[.int .i64 0, .int .i64 0, .int .i64 0] 37)).drew.trans g2
                  exact ⟨_, rfl, Lib.hid ((Box3.gr (show Box3 (wa.alloc (.cells #[.int .i64 0, .int .i64 0, .int .i64 0] 37)).drew wa.heap.size 0 0 0 from Box3.new rfl) g2).put p q d), Lib.hid (by omega), Lib.hid (((G.setCell (by simpa using SW1) _).setCell (by simpa using SW1) _).setCell (by simpa using SW1) _)⟩
              case rest =>
                obtain ⟨bx, rfl, BX, NX, GX⟩ := hcut
                have LSX := Lib.hid (fun w' (g : Gr wc w') => show w'.cell? ⟨b2, o2 + 1, none⟩ = some (.int .i64 (B : Nat)) ∧ w'.cell? ⟨b, o + B * 2, none⟩ = some (.int .i64 xb) ∧ w'.cell? ⟨b, o + B * 2 + 1, none⟩ = some (.int .i64 yb) ∧ w'.cell? ⟨bx, 0, none⟩ = some (.int .i64 p) ∧ w'.cell? ⟨bx, 1, none⟩ = some (.int .i64 q) ∧ w'.cell? ⟨bx, 2, none⟩ = some (.int .i64 d) from ⟨g.cell (GX.out.cell LSB.out.1), g.cell (GX.out.cell LSB.out.2.1), g.cell (GX.out.cell LSB.out.2.2), g.cell BX.out.1, g.cell BX.out.2.1, g.cell BX.out.2.2.1⟩)
                have SF := Lib.hid (fun (w' : World) (h : w'.cell? ⟨b2, o2 + 1, none⟩ = some (.int .i64 (B : Nat)) ∧ w'.cell? ⟨b, o + B * 2, none⟩ = some (.int .i64 xb) ∧ w'.cell? ⟨b, o + B * 2 + 1, none⟩ = some (.int .i64 yb) ∧ w'.cell? ⟨bx, 0, none⟩ = some (.int .i64 p) ∧ w'.cell? ⟨bx, 1, none⟩ = some (.int .i64 q) ∧ w'.cell? ⟨bx, 2, none⟩ = some (.int .i64 d)) (u v : Value) => show (fun (w' : World) => w'.cell? ⟨b2, o2 + 1, none⟩ = some (.int .i64 (B : Nat)) ∧ w'.cell? ⟨b, o + B * 2, none⟩ = some (.int .i64 xb) ∧ w'.cell? ⟨b, o + B * 2 + 1, none⟩ = some (.int .i64 yb) ∧ w'.cell? ⟨bx, 0, none⟩ = some (.int .i64 p) ∧ w'.cell? ⟨bx, 1, none⟩ = some (.int .i64 q) ∧ w'.cell? ⟨bx, 2, none⟩ = some (.int .i64 d)) ((w'.setCell ⟨w.heap.size, 0, none⟩ u).setCell ⟨w.heap.size, 1, none⟩ v) from
                ⟨cell_far (cell_far h.1 NE.out.1 _) NE.out.1 _, cell_far (cell_far h.2.1 NE.out.2 _) NE.out.2 _, cell_far (cell_far h.2.2.1 NE.out.2 _) NE.out.2 _, cell_far (cell_far h.2.2.2.1 NX.out _) NX.out _, cell_far (cell_far h.2.2.2.2.1 NX.out _) NX.out _, cell_far (cell_far h.2.2.2.2.2 NX.out _) NX.out _⟩)
                go_wp2_with fail
                go_region_held3 (fun w' => w'.cell? ⟨b2, o2 + 1, none⟩ = some (.int .i64 (B : Nat)) ∧ w'.cell? ⟨b, o + B * 2, none⟩ = some (.int .i64 xb) ∧ w'.cell? ⟨b, o + B * 2 + 1, none⟩ = some (.int .i64 yb) ∧ w'.cell? ⟨bx, 0, none⟩ = some (.int .i64 p) ∧ w'.cell? ⟨bx, 1, none⟩ = some (.int .i64 q) ∧ w'.cell? ⟨bx, 2, none⟩ = some (.int .i64 d))
                  (first | exact LSX.out _ (Gr.refl _) | exact LSX.out _ (Gr.drew (Gr.refl _)) | exact LSX.out _ ((Gr.refl _).drew.trans g4) | exact LSX.out _ (((Gr.refl _).drew.trans g4).trans g5) | exact SF.out _ (LSX.out _ (((Gr.refl _).drew.trans g4).trans g5)) _ _)
                  (first
                    | (go_at_call 69; refine (CRe.out _).mono ?_; rintro e w4 ⟨rfl, g4⟩)
                    | (go_at_call 88; refine (CA.out _).mono ?_; rintro e w1 ⟨rfl, rfl⟩)
                    | (go_at_call 44; refine (CR.out _).mono ?_; rintro e w5 ⟨rfl, g5⟩; have GG := Lib.hid (GX.out.trans (((Gr.refl _).drew.trans g4).trans g5)); obtain ⟨z0, y0⟩ := GG.out.fresh' (b := w.heap.size) (j := 0) (v := .int .i64 0) rfl rfl; obtain ⟨z1, y1⟩ := GG.out.fresh' (b := w.heap.size) (j := 1) (v := .int .i64 0) rfl rfl))
                all_goals go_wp2_with fail
                refine bodyPost_ret (v := .tuple #[.agg #[.int .i64 tn, .int .i64 td], .bool true]) (by simp [results, Try.results58, go_sem, z0, z1]) rfl (TY.out _ ?_)
                exact ((G0.out.trans GG.out).setCell (Nat.le_refl _) _).setCell (Nat.le_refl _) _
            · have hx3 : decide (xb < xc) = false := by simpa using hx2
              have W0 := Lib.hid (show witB n X 3 l = false by rw [WB.out, hx3]; simp)
              clear hx2 WB TN E3 TB HL HR HL0 HR0
              go_wp2_with fail
              go_quiet (fail)
              go_wp2_with fail
              go_quiet (fail)
              go_wp2_with fail
              refine bodyPost_ret (v := .tuple #[.agg #[.int .i64 0, .int .i64 0], .bool false]) (by simp [results, Try.results58, go_sem]) rfl (RetTl.no 0 0 W0.out ?_)
              repeat (first | exact Gr.refl _ | refine Gr.alloc ?_ _ | refine Gr.drewN ?_ _ | refine Gr.drew ?_ | refine Gr.setCell ?_ (by simp) _)
          · have hx3 : decide (xa < xb) = false := by simpa using hx1
            have W0 := Lib.hid (show witB n X 3 l = false by rw [WB.out, hx3]; rfl)
            clear hx1 WB TN E3 TB HL HR HL0 HR0
            go_wp2_with fail
            go_quiet (fail)
            go_wp2_with fail
            go_quiet (fail)
            go_wp2_with fail
            refine bodyPost_ret (v := .tuple #[.agg #[.int .i64 0, .int .i64 0], .bool false]) (by simp [results, Try.results58, go_sem]) rfl (RetTl.no 0 0 W0.out ?_)
            repeat (first | exact Gr.refl _ | refine Gr.alloc ?_ _ | refine Gr.drewN ?_ _ | refine Gr.drew ?_ | refine Gr.setCell ?_ (by simp) _)
        · have W0 := Lib.hid (show witB n X j l = false from by
            unfold witB
            rw [decide_eq_false m2, decide_eq_false m3]
            simp)
          have z2 : ((j : Int) == 2) = false := by simp; omega
          have z3 : ((j : Int) == 3) = false := by simp; omega
          clear m2 m3
          go_wp2_with fail
          go_quiet (fail)
          go_wp2_with fail
          go_quiet (fail)
          go_wp2_with fail
          refine bodyPost_ret (v := .tuple #[.agg #[.int .i64 0, .int .i64 0], .bool false]) (by simp [results, Try.results58, go_sem]) rfl (RetTl.no 0 0 W0.out ?_)
          repeat (first | exact Gr.refl _ | refine Gr.alloc ?_ _ | refine Gr.drewN ?_ _ | refine Gr.drew ?_ | refine Gr.setCell ?_ (by simp) _)

end Go.Proofs.Ytbhndfnfohoidaa
