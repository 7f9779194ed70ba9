/- Contracts of chapter 5: what a witness tells, of the program. -/
import Derived.Test.YtbhndfnfohoidaaW6
import Derived.Test.YtbhndfnfohoidaaQB
import Derived.Deep.RegionHeld3
import Derived.Deep.DeepCutAuto
namespace Go.Proofs.Ytbhndfnfohoidaa
open Go.RowKit Go.Firn

/-- A ratio, and whether it is told. -/
def RetTl (n : Nat) (X Y : Nat → Int) (m : Nat) (l : Nat → Int) (w : World) (e : Ending) (w' : World) : Prop :=
  ∃ N D, e = .returned (.tuple #[.agg #[.int .i64 N, .int .i64 D], .bool (witB n X m l)]) ∧ (witB n X m l = true → N = tlN X Y m l ∧ D = tlD X Y m l) ∧ Gr w w'
theorem RetTl.no {n : Nat} {X Y : Nat → Int} {m : Nat} {l : Nat → Int} {w w' : World} (N D : Int) (h : witB n X m l = false) (g : Gr w w') :
    RetTl n X Y m l w (.returned (.tuple #[.agg #[.int .i64 N, .int .i64 D], .bool false])) w' := ⟨N, D, by rw [h], fun k => (by rw [h] at k; cases k), g⟩
theorem RetTl.yes {n : Nat} {X Y : Nat → Int} {m : Nat} {l : Nat → Int} {w w' : World} (h : witB n X m l = true) (g : Gr w w') :
    RetTl n X Y m l w (.returned (.tuple #[.agg #[.int .i64 (tlN X Y m l), .int .i64 (tlD X Y m l)], .bool true])) w' := ⟨_, _, by rw [h], fun _ => ⟨rfl, rfl⟩, g⟩
theorem witB_bad {n : Nat} {X : Nat → Int} {m : Nat} {l : Nat → Int} (h : goodW n l m = false) : witB n X m l = false := by unfold witB; rw [h]; rfl

set_option maxHeartbeats 2000000 in
set_option maxRecDepth 20000 in
theorem tells_any (a : Option Addr) (n c : Nat) (X Y : Nat → Int) (V : VP n X Y) (a2 : Option Addr) (m c2 : Nat) (l : Nat → Int) (w : World) (hm : m ≤ 1000) (hmc : m ≤ c2) (hr : RdM w a n X Y) (hl : RdI w a2 m l) :
    Calls Try.prog 57 #[.slice a n c, .slice a2 m c2] w (RetTl n X Y m l w) := by
  have G0 := Lib.hid ((Gr.refl w).alloc (.cells #[.int .i64 0, .int .i64 0] 27))
  have HR := Lib.hid (hr.gr G0.out)
  have HL := Lib.hid (hl.gr G0.out)
  have n2 := V.two
  have n12 := V.few
  have HV := Lib.hid V
  clear hr hl V
  go_enter Try.func57, Try.ntmps57
  go_wp2_with fail
  go_loop [16] (fun s => ∃ j : Nat, j ≤ m ∧ s = .int .i64 j ∧ Hid (goodW n l j = true)) (fun s => m - (intOf s).toNat)
  case atStart => exact ⟨0, Nat.zero_le _, rfl, rfl⟩
  case round =>
    obtain ⟨j, hj, rfl, Hg⟩ := hrel
    by_cases hlt : j < m
    · obtain ⟨b, o, rfl, hc⟩ := HL.out.at hlt
      have c1 := hc j hlt
      have i1 : (j : Int) < m := by omega
      have i2 : (j : Int) ≤ (c2 : Int) := by omega
      have C1 := Lib.hid (fun w' => between_any 0 (l j) ((n : Int) - 1) w')
      have C2 := Lib.hid (fun w' c' hr => Contains_any (some ⟨b, o, none⟩) j c' l (l j) w' (by omega) hr)
      have RJ := Lib.hid (show RdI (w.alloc (.cells #[.int .i64 0, .int .i64 0] 27)) (some ⟨b, o, none⟩) j l from .inr ⟨b, o, rfl, fun i hi => hc i (by omega)⟩)
      have S := Lib.hid (goodW_succ n l j)
      have BD := Lib.hid (fun h => witB_bad (X := X) (goodW_stop (n := n) (l := l) hlt h))
      have GA := Lib.hid (show goodAt n l j = (btw 0 (l j) ((n : Int) - 1) && !anyI l j (l j)) from by
        unfold goodAt btw
        congr 2
        rw [decide_eq_decide]
        omega)
      clear hc hlt
      generalize l j = y at *
      cases h1 : btw 0 y ((n : Int) - 1) with
      | false =>
        have W0 := Lib.hid (BD.out (by rw [GA.out, h1]; rfl))
        rw [h1] at C1
        clear h1 C2 S BD GA
        go_wp2_with (go_at_call 70; (with_reducible refine (C1.out _).mono ?_); rintro e w1 ⟨rfl, rfl⟩)
        refine bodyPost_ret (v := .tuple #[.agg #[.int .i64 0, .int .i64 0], .bool false]) (by simp [results, Try.results57, go_sem]) rfl (RetTl.no 0 0 W0.out ?_)
        repeat (first | exact Gr.refl _ | refine Gr.alloc ?_ _ | refine Gr.drewN ?_ _ | refine Gr.drew ?_ | refine Gr.setCell ?_ (by simp) _)
      | true =>
        cases h2 : anyI l j y with
        | true =>
          have W0 := Lib.hid (BD.out (by rw [GA.out, h1, h2]; rfl))
          rw [h1] at C1
          rw [h2] at C2
          clear h1 h2 S BD GA
          go_wp2_with (first
            | (go_at_call 70; (with_reducible refine (C1.out _).mono ?_); rintro e w1 ⟨rfl, rfl⟩)
            | (go_at_call 87; refine (C2.out _ _ RJ.out).mono ?_; rintro e w1 ⟨rfl, rfl⟩))
          refine bodyPost_ret (v := .tuple #[.agg #[.int .i64 0, .int .i64 0], .bool false]) (by simp [results, Try.results57, go_sem]) rfl (RetTl.no 0 0 W0.out ?_)
          repeat (first | exact Gr.refl _ | refine Gr.alloc ?_ _ | refine Gr.drewN ?_ _ | refine Gr.drew ?_ | refine Gr.setCell ?_ (by simp) _)
        | false =>
          have S' := Lib.hid (show goodW n l (j + 1) = true by rw [S.out, Hg.out, GA.out, h1, h2]; rfl)
          rw [h1] at C1
          rw [h2] at C2
          clear h1 h2 S BD GA
          go_wp2_with (first
            | (go_at_call 70; (with_reducible refine (C1.out _).mono ?_); rintro e w1 ⟨rfl, rfl⟩)
            | (go_at_call 87; refine (C2.out _ _ RJ.out).mono ?_; rintro e w1 ⟨rfl, rfl⟩))
          go_roundw
          case rel => exact ⟨j + 1, by omega, by go_num, S'⟩
          case measure => simp [intOf]; omega
    · obtain rfl : j = m := by omega
      by_cases m2 : j = 2
      · subst m2
        obtain ⟨A, hA, eA⟩ := goodW_at Hg.out (show 0 < 2 by omega)
        obtain ⟨B, hB, eB⟩ := goodW_at Hg.out (show 1 < 2 by omega)
        obtain ⟨b2, o2, rfl, hc2⟩ := HL.out.at (show 0 < 2 by omega)
        have l0 := hc2 0 (by omega)
        have l1 := hc2 1 (by omega)
        rw [eA, Nat.add_zero] at l0
        rw [eB] at l1
        obtain ⟨b, o, rfl, hc⟩ := HR.out.at hA
        obtain ⟨pa0, pa1⟩ := hc A hA
        obtain ⟨pb0, pb1⟩ := hc B hB
        have WB := Lib.hid (show witB n X 2 l = (X A == X B) from by
          unfold witB at_
          rw [Hg.out, eA, eB]
          simp)
        have TN := Lib.hid (show tlN X Y 2 l = rN (ab (Y A - Y B)) 2 ∧ tlD X Y 2 l = rD (ab (Y A - Y B)) 2 from by
          unfold tlN tlD at_ t2N t2D
          rw [eA, eB]
          exact ⟨rfl, rfl⟩)
        have ia := HV.out.ok A hA
        have ib := HV.out.ok B hB
        have i1 : (A : Int) < n := by omega
        have i2 : (B : Int) < n := by omega
        have i3 : (0 : Int) < ((2 : Nat) : Int) := by omega
        have i4 : (1 : Int) < ((2 : Nat) : Int) := by omega
        clear hc hc2 eA eB
        generalize X A = xa at *
        generalize Y A = ya at *
        generalize X B = xb at *
        generalize Y B = yb at *
        go_upto_region 9 with (fail)
        go_cut [8, 9] (fun s8 s9 wx => ∃ ba bb : Nat, s8 = .pointer (some ⟨ba, 0, none⟩) ∧ s9 = .pointer (some ⟨bb, 0, none⟩) ∧ Hid (Box2 wx ba xa ya) ∧ Hid (Box2 wx bb xb yb) ∧ Hid (w.heap.size ≠ ba ∧ w.heap.size ≠ bb) ∧ Hid (Gr (w.alloc (.cells #[.int .i64 0, .int .i64 0] 27)) wx))
        case first =>
          go_region_held3 (fun w' => w'.cell? ⟨b2, o2, none⟩ = some (.int .i64 (A : Nat)) ∧ w'.cell? ⟨b2, o2 + 1, none⟩ = some (.int .i64 (B : Nat)) ∧ w'.cell? ⟨b, o + A * 2, none⟩ = some (.int .i64 xa) ∧ w'.cell? ⟨b, o + A * 2 + 1, none⟩ = some (.int .i64 ya) ∧ w'.cell? ⟨b, o + B * 2, none⟩ = some (.int .i64 xb) ∧ w'.cell? ⟨b, o + B * 2 + 1, none⟩ = some (.int .i64 yb))
            (go_keep) (fail)
          all_goals go_wp2_with fail
          · go_meet
            exact ⟨_, _, rfl, rfl, Lib.hid ((Box2.new (by simp)).gr ((Gr.refl _).alloc _)).drew, Lib.hid (Box2.new (by simp)).drew, Lib.hid ⟨by first | (simp; done) | (simp; omega), by first | (simp; done) | (simp; omega)⟩, Lib.hid ((((Gr.refl _).alloc _).alloc _).drew)⟩
          · go_meet
            exact ⟨_, _, rfl, rfl, Lib.hid (Box2.new (by simp)).drew, Lib.hid ((Box2.new (by simp)).gr ((Gr.refl _).alloc _)).drew, Lib.hid ⟨by first | (simp; done) | (simp; omega), by first | (simp; done) | (simp; omega)⟩, Lib.hid ((((Gr.refl _).alloc _).alloc _).drew)⟩
        case rest =>
          obtain ⟨ba, bb, rfl, rfl, B0, B1, NE, GX⟩ := hcut
          obtain ⟨d0, d1, _, _⟩ := B0.out
          obtain ⟨d2, d3, _, _⟩ := B1.out
          obtain ⟨⟨x1, x2⟩, x3, x4⟩ := ia
          obtain ⟨⟨y1, y2⟩, y3, y4⟩ := ib
          have SZ := Lib.hid (show Sz (ya - yb) from ⟨by omega, by omega⟩)
          have e1 : IntKind.i64.wrap (ya - yb) = ya - yb := IntWalk.i64_in _ (by omega)
          have CA := Lib.hid (fun w' => abs_any (ya - yb) w' SZ.out)
          have CR := Lib.hid (fun w' => ratio_any (ab (ya - yb)) 2 w' (by have := ab_cases (ya - yb); unfold Sz; omega) (by unfold Sz; omega) (by omega))
          clear x1 x2 x3 x4 y1 y2 y3 y4 l0 l1 pa0 pa1 pb0 pb1 i1 i2 i3 i4
          go_wp2_with fail
          go_region_held3 (fun w' => w'.cell? ⟨ba, 0, none⟩ = some (.int .i64 xa) ∧ w'.cell? ⟨ba, 1, none⟩ = some (.int .i64 ya) ∧ w'.cell? ⟨bb, 0, none⟩ = some (.int .i64 xb) ∧ w'.cell? ⟨bb, 1, none⟩ = some (.int .i64 yb))
            (first | go_keep | exact ⟨g2.cell d0, g2.cell d1, g2.cell d2, g2.cell d3⟩ | exact ⟨((B0.out.drew.gr g2).far NE.out.1 _ _).1, ((B0.out.drew.gr g2).far NE.out.1 _ _).2.1, ((B1.out.drew.gr g2).far NE.out.2 _ _).1, ((B1.out.drew.gr g2).far NE.out.2 _ _).2.1⟩)
            (first
              | (go_at_call 75; refine (CA.out _).mono ?_; rintro e w1 ⟨rfl, rfl⟩)
              | (go_at_call 66; refine (CR.out _).mono ?_; rintro e w2 ⟨rfl, g2⟩; have GG := Lib.hid (GX.out.drew.trans g2); obtain ⟨z0, y0⟩ := GG.out.fresh' (b := w.heap.size) (j := 0) (v := .int .i64 0) rfl rfl; obtain ⟨z1, y1⟩ := GG.out.fresh' (b := w.heap.size) (j := 1) (v := .int .i64 0) rfl rfl))
          all_goals go_wp2_with fail
          refine bodyPost_ret (v := .tuple #[.agg #[.int .i64 (rN (ab (ya - yb)) 2), .int .i64 (rD (ab (ya - yb)) 2)], .bool (xa == xb)]) (by simp [results, Try.results57, go_sem, z0, z1]) rfl ⟨_, _, by rw [WB.out], fun _ => ⟨TN.out.1.symm, TN.out.2.symm⟩, ?_⟩
          exact ((G0.out.trans GG.out).setCell (Nat.le_refl _) _).setCell (Nat.le_refl _) _
      · by_cases m3 : j = 3
        · subst m3
          obtain ⟨A, hA, eA⟩ := goodW_at Hg.out (show 0 < 3 by omega)
          obtain ⟨B, hB, eB⟩ := goodW_at Hg.out (show 1 < 3 by omega)
          obtain ⟨C, hC, eC⟩ := goodW_at Hg.out (show 2 < 3 by omega)
          obtain ⟨b2, o2, rfl, hc2⟩ := HL.out.at (show 0 < 3 by omega)
          have l0 := hc2 0 (by omega)
          have l1 := hc2 1 (by omega)
          have l2 := hc2 2 (by omega)
          rw [eA, Nat.add_zero] at l0
          rw [eB] at l1
          rw [eC] at l2
          obtain ⟨b, o, rfl, hc⟩ := HR.out.at hA
          obtain ⟨pa0, pa1⟩ := hc A hA
          obtain ⟨pb0, pb1⟩ := hc B hB
          obtain ⟨pc0, pc1⟩ := hc C hC
          have WB := Lib.hid (show witB n X 3 l = (decide (X A < X B) && decide (X B < X C)) from by
            unfold witB at_
            rw [Hg.out, eA, eB, eC]
            simp)
          have TN := Lib.hid (show tlN X Y 3 l = t3N X Y A B C ∧ tlD X Y 3 l = t3D X Y A B C from by
            unfold tlN tlD at_
            rw [eA, eB, eC]
            exact ⟨rfl, rfl⟩)
          have ia := HV.out.ok A hA
          have ib := HV.out.ok B hB
          have ic := HV.out.ok C hC
          have TB := Lib.hid (fun h => t3r_bd (X := X) (Y := Y) ia ib ic h)
          have E3 := Lib.hid (show t3r X Y A B C = rs (X B) (Y B) (thA (X A) (Y A) (X C) (Y C)) (thB (X A) (Y A) (X C) (Y C)) (thD (X A) (Y A) (X C) (Y C)) ∧ t3d X Y A C = thD (X A) (Y A) (X C) (Y C) ∧ t3N X Y A B C = rN (ab (t3r X Y A B C)) (2 * t3d X Y A C) ∧ t3D X Y A B C = rD (ab (t3r X Y A B C)) (2 * t3d X Y A C) from ⟨rfl, rfl, rfl, rfl⟩)
          have i1 : (A : Int) < n := by omega
          have i2 : (B : Int) < n := by omega
          have i5 : (C : Int) < n := by omega
          have i3 : (0 : Int) < ((3 : Nat) : Int) := by omega
          have i4 : (1 : Int) < ((3 : Nat) : Int) := by omega
          have i6 : (2 : Int) < ((3 : Nat) : Int) := by omega
          clear hc hc2 eA eB eC
          generalize t3N X Y A B C = tn at *
          generalize t3D X Y A B C = td at *
          generalize t3r X Y A B C = tr at *
          generalize t3d X Y A C = dd at *
          generalize X A = xa at *
          generalize Y A = ya at *
          generalize X B = xb at *
          generalize Y B = yb at *
          generalize X C = xc at *
          generalize Y C = yc at *
          go_upto_region 12 with (fail)
          go_cut [10, 11, 12] (fun s8 s9 s10 wx => ∃ ba bb bc : Nat, s8 = .pointer (some ⟨ba, 0, none⟩) ∧ s9 = .pointer (some ⟨bb, 0, none⟩) ∧ s10 = .pointer (some ⟨bc, 0, none⟩) ∧ Hid (Box2 wx ba xa ya) ∧ Hid (Box2 wx bb xb yb) ∧ Hid (Box2 wx bc xc yc) ∧ Hid (w.heap.size ≠ ba ∧ w.heap.size ≠ bb ∧ w.heap.size ≠ bc) ∧ Hid (Gr (w.alloc (.cells #[.int .i64 0, .int .i64 0] 27)) wx))
          case first =>
            have LS := Lib.hid (fun w' (g : Gr (w.alloc (.cells #[.int .i64 0, .int .i64 0] 27)) w') => show w'.cell? ⟨b2, o2, none⟩ = some (.int .i64 (A : Nat)) ∧ w'.cell? ⟨b2, o2 + 1, none⟩ = some (.int .i64 (B : Nat)) ∧ w'.cell? ⟨b2, o2 + 2, none⟩ = some (.int .i64 (C : Nat)) ∧ w'.cell? ⟨b, o + A * 2, none⟩ = some (.int .i64 xa) ∧ w'.cell? ⟨b, o + A * 2 + 1, none⟩ = some (.int .i64 ya) ∧ w'.cell? ⟨b, o + B * 2, none⟩ = some (.int .i64 xb) ∧ w'.cell? ⟨b, o + B * 2 + 1, none⟩ = some (.int .i64 yb) ∧ w'.cell? ⟨b, o + C * 2, none⟩ = some (.int .i64 xc) ∧ w'.cell? ⟨b, o + C * 2 + 1, none⟩ = some (.int .i64 yc) from ⟨g.cell l0, g.cell l1, g.cell l2, g.cell pa0, g.cell pa1, g.cell pb0, g.cell pb1, g.cell pc0, g.cell pc1⟩)
            go_region_held3 (fun w' => w'.cell? ⟨b2, o2, none⟩ = some (.int .i64 (A : Nat)) ∧ w'.cell? ⟨b2, o2 + 1, none⟩ = some (.int .i64 (B : Nat)) ∧ w'.cell? ⟨b2, o2 + 2, none⟩ = some (.int .i64 (C : Nat)) ∧ w'.cell? ⟨b, o + A * 2, none⟩ = some (.int .i64 xa) ∧ w'.cell? ⟨b, o + A * 2 + 1, none⟩ = some (.int .i64 ya) ∧ w'.cell? ⟨b, o + B * 2, none⟩ = some (.int .i64 xb) ∧ w'.cell? ⟨b, o + B * 2 + 1, none⟩ = some (.int .i64 yb) ∧ w'.cell? ⟨b, o + C * 2, none⟩ = some (.int .i64 xc) ∧ w'.cell? ⟨b, o + C * 2 + 1, none⟩ = some (.int .i64 yc))
              (first | exact LS.out _ (Gr.drew (Gr.alloc (Gr.alloc (Gr.alloc (Gr.refl _) _) _) _)) | exact LS.out _ (Gr.alloc (Gr.alloc (Gr.alloc (Gr.refl _) _) _) _) | go_keep) (fail)
            all_goals
              go_wp2_with fail
              go_meet
              exact ⟨_, _, _, rfl, rfl, rfl, Lib.hid (by first | exact (Box2.new (by simp)).drew | exact ((Box2.new (by simp)).gr ((Gr.refl _).alloc _)).drew | exact ((Box2.new (by simp)).gr (((Gr.refl _).alloc _).alloc _)).drew), Lib.hid (by first | exact (Box2.new (by simp)).drew | exact ((Box2.new (by simp)).gr ((Gr.refl _).alloc _)).drew | exact ((Box2.new (by simp)).gr (((Gr.refl _).alloc _).alloc _)).drew), Lib.hid (by first | exact (Box2.new (by simp)).drew | exact ((Box2.new (by simp)).gr ((Gr.refl _).alloc _)).drew | exact ((Box2.new (by simp)).gr (((Gr.refl _).alloc _).alloc _)).drew), Lib.hid ⟨by first | (simp; done) | (simp; omega), by first | (simp; done) | (simp; omega), by first | (simp; done) | (simp; omega)⟩, Lib.hid (((((Gr.refl _).alloc _).alloc _).alloc _).drew)⟩
          case rest =>
            obtain ⟨ba, bb, bc, rfl, rfl, rfl, B0, B1, B2, NE, GX⟩ := hcut
            obtain ⟨d0, d1, _, _⟩ := B0.out
            obtain ⟨d2, d3, _, _⟩ := B1.out
            obtain ⟨d4, d5, _, _⟩ := B2.out
            clear l0 l1 l2 pa0 pa1 pb0 pb1 pc0 pc1 i1 i2 i3 i4 i5 i6
            by_cases hx : xa < xb ∧ xb < xc
            · obtain ⟨hx1, hx2⟩ := hx
              have W1 := Lib.hid (show witB n X 3 l = true by rw [WB.out]; simp; omega)
              have hxc : xa ≠ xc := by omega
              obtain ⟨⟨t1, t2⟩, t3, t4⟩ := TB.out hxc
              have IL := th_in ia ic hxc
              have CT := Lib.hid (fun w' => through_any xa ya xc yc w' ia ic hxc)
              obtain ⟨E31, E32, E33, E34⟩ := E3.out
              generalize thA xa ya xc yc = p at *
              generalize thB xa ya xc yc = q at *
              generalize thD xa ya xc yc = d at *
              have E35 := E32.symm
              clear E32
              subst E35
              have CRe := Lib.hid (fun w' => rest_any xb yb p q d w' ib IL)
              rw [← E31] at CRe
              have CA := Lib.hid (fun w' => abs_any tr w' (by unfold Sz; omega))
              have CR := Lib.hid (fun w' => ratio_any (ab tr) (2 * d) w' (by have := ab_cases tr; unfold Sz; omega) (by unfold Sz; omega) (by omega))
              have e1 : IntKind.i64.wrap (2 * d) = 2 * d := IntWalk.i64_in _ (by omega)
              rw [← E33, ← E34] at CR
              have TY := Lib.hid (fun w' g => RetTl.yes (Y := Y) (w := w) (w' := w') W1.out g)
              rw [TN.out.1, TN.out.2] at TY
              have IAB := Lib.hid ib
              clear ia ib ic IL t1 t2 t3 t4 hxc E31 E33 E34 E3 TB TN WB W1
              go_wp2_with (go_at_call 82; (with_reducible refine (CT.out _).mono ?_); rintro e w3 ⟨rfl, g3⟩; have G3 := Lib.hid g3; clear g3)
              have LS := Lib.hid (fun w' (g : Gr (w3.alloc (.cells #[.int .i64 p, .int .i64 q, .int .i64 d] 37)) w') => show w'.cell? ⟨bb, 0, none⟩ = some (.int .i64 xb) ∧ w'.cell? ⟨bb, 1, none⟩ = some (.int .i64 yb) ∧ w'.cell? ⟨w3.heap.size, 0, none⟩ = some (.int .i64 p) ∧ w'.cell? ⟨w3.heap.size, 1, none⟩ = some (.int .i64 q) ∧ w'.cell? ⟨w3.heap.size, 2, none⟩ = some (.int .i64 d) from
                ⟨g.cell (((Gr.refl w3).alloc _).cell (G3.out.cell d2)), g.cell (((Gr.refl w3).alloc _).cell (G3.out.cell d3)), g.cell (Box3.new rfl).1, g.cell (Box3.new rfl).2.1, g.cell (Box3.new rfl).2.2.1⟩)
              have N3 := Lib.hid (show w.heap.size ≠ w3.heap.size from by have h1 := GX.out.size; have h2 := G3.out.size; simp at h1; omega)
              clear d0 d1 d2 d3 d4 d5 hx1 hx2
              have SF := Lib.hid (fun (w' : World) (h : w'.cell? ⟨bb, 0, none⟩ = some (.int .i64 xb) ∧ w'.cell? ⟨bb, 1, none⟩ = some (.int .i64 yb) ∧ w'.cell? ⟨w3.heap.size, 0, none⟩ = some (.int .i64 p) ∧ w'.cell? ⟨w3.heap.size, 1, none⟩ = some (.int .i64 q) ∧ w'.cell? ⟨w3.heap.size, 2, none⟩ = some (.int .i64 d)) (u v : Value) => show (fun (w' : World) => w'.cell? ⟨bb, 0, none⟩ = some (.int .i64 xb) ∧ w'.cell? ⟨bb, 1, none⟩ = some (.int .i64 yb) ∧ w'.cell? ⟨w3.heap.size, 0, none⟩ = some (.int .i64 p) ∧ w'.cell? ⟨w3.heap.size, 1, none⟩ = some (.int .i64 q) ∧ w'.cell? ⟨w3.heap.size, 2, none⟩ = some (.int .i64 d)) ((w'.setCell ⟨w.heap.size, 0, none⟩ u).setCell ⟨w.heap.size, 1, none⟩ v) from
                ⟨cell_far (cell_far h.1 NE.out.2.1 _) NE.out.2.1 _, cell_far (cell_far h.2.1 NE.out.2.1 _) NE.out.2.1 _, cell_far (cell_far h.2.2.1 N3.out _) N3.out _, cell_far (cell_far h.2.2.2.1 N3.out _) N3.out _, cell_far (cell_far h.2.2.2.2 N3.out _) N3.out _⟩)
              have G33 := Lib.hid (GX.out.trans (G3.out.trans ((Gr.refl w3).alloc (.cells #[.int .i64 p, .int .i64 q, .int .i64 d] 37))))
              clear GX G3
              go_region_held3 (fun w' => w'.cell? ⟨bb, 0, none⟩ = some (.int .i64 xb) ∧ w'.cell? ⟨bb, 1, none⟩ = some (.int .i64 yb) ∧ w'.cell? ⟨w3.heap.size, 0, none⟩ = some (.int .i64 p) ∧ w'.cell? ⟨w3.heap.size, 1, none⟩ = some (.int .i64 q) ∧ w'.cell? ⟨w3.heap.size, 2, none⟩ = some (.int .i64 d))
                (first | exact LS.out _ (Gr.refl _) | exact LS.out _ (Gr.drew (Gr.refl _)) | exact LS.out _ ((Gr.refl _).drew.trans g4) | exact LS.out _ (((Gr.refl _).drew.trans g4).trans g5) | exact SF.out _ (LS.out _ (((Gr.refl _).drew.trans g4).trans g5)) _ _)
                (first
                  | (go_at_call 67; refine (CRe.out _).mono ?_; rintro e w4 ⟨rfl, g4⟩)
                  | (go_at_call 75; refine (CA.out _).mono ?_; rintro e w1 ⟨rfl, rfl⟩)
                  | (go_at_call 66; refine (CR.out _).mono ?_; rintro e w5 ⟨rfl, g5⟩; have GG := Lib.hid (G33.out.trans (((Gr.refl _).drew.trans g4).trans g5)); obtain ⟨z0, y0⟩ := GG.out.fresh' (b := w.heap.size) (j := 0) (v := .int .i64 0) rfl rfl; obtain ⟨z1, y1⟩ := GG.out.fresh' (b := w.heap.size) (j := 1) (v := .int .i64 0) rfl rfl))
              all_goals go_wp2_with fail
              refine bodyPost_ret (v := .tuple #[.agg #[.int .i64 tn, .int .i64 td], .bool true]) (by simp [results, Try.results57, go_sem, z0, z1]) rfl (TY.out _ ?_)
              exact ((G0.out.trans GG.out).setCell (Nat.le_refl _) _).setCell (Nat.le_refl _) _
            · have W0 := Lib.hid (show witB n X 3 l = false by rw [WB.out]; simp; omega)
              by_cases hx1 : xa < xb
              · have hx2 : xc ≤ xb := by omega
                clear hx WB TN E3 TB HL HR
                obtain ⟨z0, y0⟩ := GX.out.fresh' (b := w.heap.size) (j := 0) (v := .int .i64 0) rfl rfl
                obtain ⟨z1, y1⟩ := GX.out.fresh' (b := w.heap.size) (j := 1) (v := .int .i64 0) rfl rfl
                go_wp2_with fail
                refine bodyPost_ret (v := .tuple #[.agg #[.int .i64 0, .int .i64 0], .bool false]) (by simp [results, Try.results57, go_sem, z0, z1]) rfl (RetTl.no 0 0 W0.out ?_)
                exact ((G0.out.trans GX.out).setCell (Nat.le_refl _) _).setCell (Nat.le_refl _) _
              · have hx2 : xb ≤ xa := by omega
                clear hx WB TN E3 TB HL HR
                obtain ⟨z0, y0⟩ := GX.out.fresh' (b := w.heap.size) (j := 0) (v := .int .i64 0) rfl rfl
                obtain ⟨z1, y1⟩ := GX.out.fresh' (b := w.heap.size) (j := 1) (v := .int .i64 0) rfl rfl
                go_wp2_with fail
                refine bodyPost_ret (v := .tuple #[.agg #[.int .i64 0, .int .i64 0], .bool false]) (by simp [results, Try.results57, go_sem, z0, z1]) rfl (RetTl.no 0 0 W0.out ?_)
                exact ((G0.out.trans GX.out).setCell (Nat.le_refl _) _).setCell (Nat.le_refl _) _
        · have W0 := Lib.hid (show witB n X j l = false from by
            unfold witB
            rw [decide_eq_false m2, decide_eq_false m3]
            simp)
          have z2 : ((j : Int) == 2) = false := by simp; omega
          have z3 : ((j : Int) == 3) = false := by simp; omega
          clear m2 m3
          go_wp2_with fail
          refine bodyPost_ret (v := .tuple #[.agg #[.int .i64 0, .int .i64 0], .bool false]) (by simp [results, Try.results57, go_sem]) rfl (RetTl.no 0 0 W0.out ?_)
          repeat (first | exact Gr.refl _ | refine Gr.alloc ?_ _ | refine Gr.drewN ?_ _ | refine Gr.drew ?_ | refine Gr.setCell ?_ (by simp) _)

end Go.Proofs.Ytbhndfnfohoidaa
