/- ProvRings: its walk at three valid sums. -/
import Derived.Test.YtehdemcfeoiecaaDoorFra
import Derived.Test.YtehdemcfeoiecaaDoorV12
import Derived.Deep.DeepCutAuto
namespace Go.Proofs.YtehdemcfeoiecaaDoor.provRings
open Go.ChangeShapes Go.WideShapes Go.ChangeAt Go.RowKit Go.Firn

theorem refValid_list (a : Option Addr) (c : Nat) (L : SL) (w : World) (h : vL L = true) (hr : RdS w a L.length (sx L) (sy L)) : Calls Tryd.prog 20 #[.slice a L.length c] w (RetB true w) := by
  have := refValidSum_any a L.length c (sx L) (sy L) w (vL_len h) (vL_size h) hr
  rw [show vS (sx L) (sy L) L.length = true from h] at this
  exact this

/-- A sum that is read. -/
abbrev Rd (w : World) (a : Option Addr) (L : SL) : Prop := RdS w a L.length (sx L) (sy L)

theorem lit_rd (w : World) (t : TypeId) : Rd (w.alloc (.cells #[.string ⟨#[]⟩, .int .i64 1] t)) (some ⟨w.heap.size, 0, none⟩) [([], 1)] :=
  .inr ⟨w.heap.size, 0, rfl, fun i hi => by
    obtain rfl : i = 0 := by simp at hi; exact hi
    exact box2 w ⟨#[]⟩ 1 t⟩

set_option maxHeartbeats 8000000 in
set_option maxRecDepth 100000 in
theorem walk_ok (a1 a2 a3 : Option Addr) (c1 c2 c3 : Nat) (s t u : SL) (w : World) (hs : vL s = true) (ht : vL t = true) (hu : vL u = true) (hr1 : Rd w a1 s) (hr2 : Rd w a2 t) (hr3 : Rd w a3 u) :
    Calls Tryd.prog 5 #[.slice a1 s.length c1, .slice a2 t.length c2, .slice a3 u.length c3] w (RetB true w) := by
  have R1 := Lib.hid hr1
  have R2 := Lib.hid hr2
  have R3 := Lib.hid hr3
  have D1 := Lib.hid (fun wx (k : Gr w wx) => refValid_list a1 c1 s wx hs (R1.out.gr k))
  have D2 := Lib.hid (fun wx (k : Gr w wx) => refValid_list a2 c2 t wx ht (R2.out.gr k))
  have D3 := Lib.hid (fun wx (k : Gr w wx) => refValid_list a3 c3 u wx hu (R3.out.gr k))
  -- plus and times of two
  have A1 := Lib.hid (fun wx (k : Gr w wx) => Plus_list a1 a2 c1 c2 s t wx hs ht (R1.out.gr k) (R2.out.gr k))
  have A2 := Lib.hid (fun wx (k : Gr w wx) => Plus_list a2 a1 c2 c1 t s wx ht hs (R2.out.gr k) (R1.out.gr k))
  have A3 := Lib.hid (fun wx (k : Gr w wx) => Times_list a1 a2 c1 c2 s t wx hs ht (R1.out.gr k) (R2.out.gr k))
  have A4 := Lib.hid (fun wx (k : Gr w wx) => Times_list a2 a1 c2 c1 t s wx ht hs (R2.out.gr k) (R1.out.gr k))
  rw [(opA_comm false ht hs).1, (opA_comm false ht hs).2] at A2
  rw [(opA_comm true ht hs).1, (opA_comm true ht hs).2] at A4
  have hE : opE false s t = 0 ∨ opE false s t = 4 := (opE_is false s t).imp (·.1) (·.1)
  have hF : opE true s t = 0 ∨ opE true s t = 4 := (opE_is true s t).imp (·.1) (·.1)
  have SP := Lib.hid (fun aa bb cc dd wx k k' => same_list aa bb cc dd (opA false s t) wx (opA_vL hs ht) k k')
  have SQ := Lib.hid (fun aa bb cc dd wx k k' => same_list aa bb cc dd (opA true s t) wx (opA_vL hs ht) k k')
  -- zero, none and one
  have B1 := Lib.hid (fun wx (k : Gr w wx) => show Calls Tryd.prog 15 #[.slice a1 s.length c1, .slice none 0 0] wx _ from Plus_list a1 none c1 0 s [] wx hs vL_nil (R1.out.gr k) (RdS.nil _ _ _ _))
  rw [(op_zero hs).1, (op_zero hs).2] at B1
  have B2 := Lib.hid (fun wx (k : Gr w wx) => show Calls Tryd.prog 17 #[.slice a1 s.length c1, .slice none 0 0] wx _ from Times_list a1 none c1 0 s [] wx hs vL_nil (R1.out.gr k) (RdS.nil _ _ _ _))
  rw [(op_none s).1, (op_none s).2] at B2
  have B3 := Lib.hid (fun bb wx (k : Gr w wx) (k1 : Rd wx bb [([], 1)]) => show Calls Tryd.prog 17 #[.slice a1 s.length c1, .slice bb 1 1] wx _ from Times_list a1 bb c1 1 s [([], 1)] wx hs vL_one (R1.out.gr k) k1)
  rw [(op_one hs).1, (op_one hs).2] at B3
  have SS := Lib.hid (fun aa cc wx (k : Gr w wx) k' => same_list aa a1 cc c1 s wx hs k' (R1.out.gr k))
  -- chained
  have X1 := Lib.hid (fun wx (k : Gr w wx) => chained_any false a1 a2 a3 c1 c2 c3 s t u wx hs ht hu (R1.out.gr k) (R2.out.gr k) (R3.out.gr k))
  have X2 := Lib.hid (fun wx (k : Gr w wx) => chained_any false a2 a3 a1 c2 c3 c1 t u s wx ht hu hs (R2.out.gr k) (R3.out.gr k) (R1.out.gr k))
  have X3 := Lib.hid (fun wx (k : Gr w wx) => chained_any true a1 a2 a3 c1 c2 c3 s t u wx hs ht hu (R1.out.gr k) (R2.out.gr k) (R3.out.gr k))
  have X4 := Lib.hid (fun wx (k : Gr w wx) => chained_any true a2 a3 a1 c2 c3 c1 t u s wx ht hu hs (R2.out.gr k) (R3.out.gr k) (R1.out.gr k))
  have T1 := Lib.hid (chL_turn (b := false) hs ht hu)
  have T2 := Lib.hid (chL_turn (b := true) hs ht hu)
  have V1 := Lib.hid (show vL (chL false s t u) = true from opA_vL (opA_vL hs ht) hu)
  have V2 := Lib.hid (show vL (chL true s t u) = true from opA_vL (opA_vL hs ht) hu)
  generalize chL false s t u = l1 at X1 T1 V1
  generalize chL false t u s = m1 at X2 T1
  generalize chL true s t u = l2 at X3 T2 V2
  generalize chL true t u s = m2 at X4 T2
  generalize chB false s t u = k1 at X1 T1
  generalize chB false t u s = n1 at X2 T1
  generalize chB true s t u = k2 at X3 T2
  generalize chB true t u s = n2 at X4 T2
  -- what is distributed
  have Y1 := Lib.hid (fun wx (k : Gr w wx) => Plus_list a2 a3 c2 c3 t u wx ht hu (R2.out.gr k) (R3.out.gr k))
  have Y2 := Lib.hid (fun bb cc wx (k : Gr w wx) k' => Times_list a1 bb c1 cc s (opA false t u) wx hs (opA_vL ht hu) (R1.out.gr k) k')
  have Y3 := Lib.hid (fun wx (k : Gr w wx) => Times_list a1 a3 c1 c3 s u wx hs hu (R1.out.gr k) (R3.out.gr k))
  have Y4 := Lib.hid (fun aa bb cc dd wx k k' => Plus_list aa bb cc dd (opA true s t) (opA true s u) wx (opA_vL hs ht) (opA_vL hs hu) k k')
  have hE1 : opE false t u = 0 ∨ opE false t u = 4 := (opE_is false t u).imp (·.1) (·.1)
  have hE2 : opE true s (opA false t u) = 0 ∨ opE true s (opA false t u) = 4 := (opE_is true s (opA false t u)).imp (·.1) (·.1)
  have hE3 : opE true s u = 0 ∨ opE true s u = 4 := (opE_is true s u).imp (·.1) (·.1)
  have YD := Lib.hid (op_dist hs ht hu)
  have YS := Lib.hid (fun aa bb cc dd wx k k' => same_list aa bb cc dd (opA true s (opA false t u)) wx (opA_vL hs (opA_vL ht hu)) k k')
  clear hs ht hu hr1 hr2 hr3 R1 R2 R3
  generalize opA false (opA true s t) (opA true s u) = Z5 at Y4 YD
  generalize opE false (opA true s t) (opA true s u) = E5 at Y4 YD
  generalize opA true s (opA false t u) = Z2 at Y2 YD YS
  generalize opE true s (opA false t u) = E2 at Y2 YD hE2
  generalize opA false t u = Z1 at Y1 Y2
  generalize opE false t u = E1 at Y1 YD hE1
  generalize opA true s u = Z3 at Y3 Y4
  generalize opE true s u = E3 at Y3 YD hE3
  generalize opA false s t = P at A1 A2 SP
  generalize opE false s t = E at A1 A2 hE
  generalize opA true s t = Q at A3 A4 SQ Y4
  generalize opE true s t = F at A3 A4 hF YD
  have HE := Lib.hid hE
  have HF := Lib.hid hF
  have HE1 := Lib.hid hE1
  have HE2 := Lib.hid hE2
  have HE3 := Lib.hid hE3
  clear hE hF hE1 hE2 hE3
  go_enter Tryd.func5, Tryd.ntmps5
  go_upto_region 7 with (first
    | (go_at_call 20; (with_reducible refine (D1.out _ (Gr.refl w)).mono ?_); rintro e w1 ⟨rfl, g1⟩; have G1 := Lib.hid g1; clear g1 D1)
    | (go_at_call 20; (with_reducible refine (D2.out _ G1.out).mono ?_); rintro e w2 ⟨rfl, g2⟩; have G2 := Lib.hid (G1.out.trans g2); clear g2 D2)
    | (go_at_call 20; (with_reducible refine (D3.out _ G2.out).mono ?_); rintro e w3 ⟨rfl, g3⟩; have G3 := Lib.hid (G2.out.trans g3); clear g3 D3)
    | (go_at_call 15; (with_reducible refine (A1.out _ G3.out).mono ?_); rintro e w4 ⟨b1, d1, rfl, q1, q2, q3, g4⟩; have U1 := Lib.hid q3; have G4 := Lib.hid (G3.out.trans g4); clear g4 q1 q2 q3 A1)
    | (go_at_call 15; (with_reducible refine (A2.out _ G4.out).mono ?_); rintro e w5 ⟨b2, d2, rfl, q1, q2, q3, g5⟩; have U2 := Lib.hid q3; have U1 := Lib.hid (U1.out.gr g5); have G5 := Lib.hid (G4.out.trans g5); clear g5 q1 q2 q3 A2)
    | (go_at_call 17; (with_reducible refine (A3.out _ G5.out).mono ?_); rintro e w6 ⟨b3, d3, rfl, q1, q2, q3, g6⟩; have U3 := Lib.hid q3; have U1 := Lib.hid (U1.out.gr g6); have U2 := Lib.hid (U2.out.gr g6); have G6 := Lib.hid (G5.out.trans g6); clear g6 q1 q2 q3)
    | (go_at_call 17; (with_reducible refine (A4.out _ G6.out).mono ?_); rintro e w7 ⟨b4, d4, rfl, q1, q2, q3, g7⟩; have U4 := Lib.hid q3; have U1 := Lib.hid (U1.out.gr g7); have U2 := Lib.hid (U2.out.gr g7); have U3 := Lib.hid (U3.out.gr g7); have G7 := Lib.hid (G6.out.trans g7); clear g7 q1 q2 q3 A4))
  go_cut [100] from 65 to 100 (fun v wx => v = .bool false ∧ Hid (Gr w wx))
  case first =>
    clear B1 B2 B3 SS X1 X2 X3 X4 T1 T2 V1 V2 Y1 Y2 Y3 Y4 YD YS HE1 HE2 HE3 A3
    have hE := HE.out
    have hF := HF.out
    clear HE HF
    rcases hE with rfl | rfl <;> rcases hF with rfl | rfl
    all_goals (
      go_wp2_with (first
        | (go_at_call 21; (with_reducible refine (SP.out _ _ _ _ _ U1.out U2.out).mono ?_); rintro e w8 ⟨rfl, g8⟩; have G8 := Lib.hid (G7.out.trans g8); have U3 := Lib.hid (U3.out.gr g8); have U4 := Lib.hid (U4.out.gr g8); clear g8 SP)
        | (go_at_call 21; (with_reducible refine (SQ.out _ _ _ _ _ U3.out U4.out).mono ?_); rintro e w9 ⟨rfl, g9⟩; have G9 := Lib.hid (G8.out.trans g9); clear g9 SQ))
      go_meet
      exact ⟨rfl, Lib.hid G9.out⟩)
  case rest =>
    obtain ⟨rfl, G8⟩ := hcut
    clear SP SQ U1 U2 U3 U4 G1 G2 G3 G4 G5 G6 G7 HE
    go_upto_region 16 with (first
      | (go_at_call 15; (with_reducible refine (B1.out _ G8.out).mono ?_); rintro e w9 ⟨b1, d1, rfl, q1, q2, q3, g9⟩; have U1 := Lib.hid q3; have G9 := Lib.hid (G8.out.trans g9); clear g9 q1 q2 q3 B1)
      | (go_at_call 17; (with_reducible refine (B2.out _ G9.out).mono ?_); rintro e w10 ⟨b2, d2, rfl, q1, q2, q3, g10⟩; have U1 := Lib.hid (U1.out.gr g10); have G10 := Lib.hid (G9.out.trans g10); clear g10 q1 q2 q3 B2)
      | (go_at_call 17; (with_reducible refine (B3.out _ _ (G10.out.alloc _) (lit_rd w10 34)).mono ?_); rintro e w11 ⟨b3, d3, rfl, q1, q2, q3, g11⟩; have U3 := Lib.hid q3; have U1 := Lib.hid (U1.out.gr (((Gr.refl w10).alloc _).trans g11)); have G11 := Lib.hid ((G10.out.alloc _).trans g11); clear g11 q1 q2 q3 B3)
      | (go_at_call 21; (with_reducible refine (SS.out _ _ _ G11.out U1.out).mono ?_); rintro e w12 ⟨rfl, g12⟩; have U3 := Lib.hid (U3.out.gr g12); have G12 := Lib.hid (G11.out.trans g12); clear g12 U1)
      | (go_at_call 21; (with_reducible refine (SS.out _ _ _ G12.out U3.out).mono ?_); rintro e w13 ⟨rfl, g13⟩; have G13 := Lib.hid (G12.out.trans g13); clear g13 U3 SS)
      | (go_at_call 22; (with_reducible refine (X1.out _ G13.out).mono ?_); rintro e w14 ⟨b4, d4, rfl, q1, q2, q3, g14⟩; have U4 := Lib.hid q3; have G14 := Lib.hid (G13.out.trans g14); clear g14 q1 q2 q3 X1)
      | (go_at_call 22; (with_reducible refine (X2.out _ G14.out).mono ?_); rintro e w15 ⟨b5, d5, rfl, q1, q2, q3, g15⟩; have U5 := Lib.hid q3; have U4 := Lib.hid (U4.out.gr g15); have G15 := Lib.hid (G14.out.trans g15); clear g15 q1 q2 q3 X2))
    go_cut [168] from 159 to 168 (fun v wx => v = .bool false ∧ Hid (Gr w wx))
    case first =>
      clear X3 X4 T2 V2 Y1 Y2 Y3 Y4 YD YS HE1 HE2 HE3 HF A3
      cases k1
      · clear T1 V1
        cases n1 <;> (go_wp2_with fail; go_meet; exact ⟨rfl, Lib.hid G15.out⟩)
      · cases n1
        · clear T1 V1
          go_wp2_with fail
          go_meet
          exact ⟨rfl, Lib.hid G15.out⟩
        · obtain rfl := T1.out rfl rfl
          have SX := Lib.hid (fun aa bb cc dd wx k k' => same_list aa bb cc dd l1 wx V1.out k k')
          clear T1 V1
          go_wp2_with (go_at_call 21; (with_reducible refine (SX.out _ _ _ _ _ U4.out U5.out).mono ?_); rintro e w16 ⟨rfl, g16⟩; have G16 := Lib.hid (G15.out.trans g16); clear g16)
          go_meet
          exact ⟨rfl, Lib.hid G16.out⟩
    case rest =>
      obtain ⟨rfl, G16⟩ := hcut
      clear U4 U5 G8 G9 G10 G11 G12 G13 G14 G15 T1 V1
      go_upto_region 20 with (first
        | (go_at_call 22; (with_reducible refine (X3.out _ G16.out).mono ?_); rintro e w17 ⟨b6, d6, rfl, q1, q2, q3, g17⟩; have U6 := Lib.hid q3; have G17 := Lib.hid (G16.out.trans g17); clear g17 q1 q2 q3 X3)
        | (go_at_call 22; (with_reducible refine (X4.out _ G17.out).mono ?_); rintro e w18 ⟨b7, d7, rfl, q1, q2, q3, g18⟩; have U7 := Lib.hid q3; have U6 := Lib.hid (U6.out.gr g18); have G18 := Lib.hid (G17.out.trans g18); clear g18 q1 q2 q3 X4))
      go_cut [192] from 183 to 192 (fun v wx => v = .bool false ∧ Hid (Gr w wx))
      case first =>
        clear Y1 Y2 Y3 Y4 YD YS HE1 HE2 HE3 HF A3
        cases k2
        · clear T2 V2
          cases n2 <;> (go_wp2_with fail; go_meet; exact ⟨rfl, Lib.hid G18.out⟩)
        · cases n2
          · clear T2 V2
            go_wp2_with fail
            go_meet
            exact ⟨rfl, Lib.hid G18.out⟩
          · obtain rfl := T2.out rfl rfl
            have SX := Lib.hid (fun aa bb cc dd wx k k' => same_list aa bb cc dd l2 wx V2.out k k')
            clear T2 V2
            go_wp2_with (go_at_call 21; (with_reducible refine (SX.out _ _ _ _ _ U6.out U7.out).mono ?_); rintro e w19 ⟨rfl, g19⟩; have G19 := Lib.hid (G18.out.trans g19); clear g19)
            go_meet
            exact ⟨rfl, Lib.hid G19.out⟩
      case rest =>
        obtain ⟨rfl, G19⟩ := hcut
        clear U6 U7 G16 G17 G18 T2 V2
        have AW := Lib.hid (fun wx => Awake_any wx)
        go_upto_region 26 with (first
          | (go_at_call 15; (with_reducible refine (Y1.out _ G19.out).mono ?_); rintro e w20 ⟨b1, d1, rfl, q1, q2, q3, g20⟩; have U1 := Lib.hid q3; have G20 := Lib.hid (G19.out.trans g20); clear g20 q1 q2 q3 Y1)
          | (go_at_call 17; (with_reducible refine (Y2.out _ _ _ G20.out U1.out).mono ?_); rintro e w21 ⟨b2, d2, rfl, q1, q2, q3, g21⟩; have U2 := Lib.hid q3; have G21 := Lib.hid (G20.out.trans g21); clear g21 q1 q2 q3 Y2 U1)
          | (go_at_call 17; (with_reducible refine (A3.out _ G21.out).mono ?_); rintro e w22 ⟨b3, d3, rfl, q1, q2, q3, g22⟩; have U3 := Lib.hid q3; have U2 := Lib.hid (U2.out.gr g22); have G22 := Lib.hid (G21.out.trans g22); clear g22 q1 q2 q3 A3)
          | (go_at_call 17; (with_reducible refine (Y3.out _ G22.out).mono ?_); rintro e w23 ⟨b4, d4, rfl, q1, q2, q3, g23⟩; have U4 := Lib.hid q3; have U2 := Lib.hid (U2.out.gr g23); have U3 := Lib.hid (U3.out.gr g23); have G23 := Lib.hid (G22.out.trans g23); clear g23 q1 q2 q3 Y3))
        have hE1 := HE1.out
        have hE2 := HE2.out
        have hE3 := HE3.out
        have hF := HF.out
        clear HE1 HE2 HE3 HF
        rcases hE1 with rfl | rfl
        · rcases hE2 with rfl | rfl
          · rcases hF with rfl | rfl
            · rcases hE3 with rfl | rfl
              · obtain ⟨rfl, rfl⟩ := YD.out rfl rfl rfl rfl
                clear YD
                go_wp2_with (first
                  | (go_at_call 15; (with_reducible refine (Y4.out _ _ _ _ _ U3.out U4.out).mono ?_); rintro e w24 ⟨b5, d5, rfl, q1, q2, q3, g24⟩; have U5 := Lib.hid q3; have U2 := Lib.hid (U2.out.gr g24); have G24 := Lib.hid (G23.out.trans g24); clear g24 q1 q2 q3 Y4)
                  | (go_at_call 21; (with_reducible refine (YS.out _ _ _ _ _ U2.out U5.out).mono ?_); rintro e w25 ⟨rfl, g25⟩; have G25 := Lib.hid (G24.out.trans g25); clear g25)
                  | (go_at_call 10; (with_reducible refine (AW.out _).mono ?_); rintro e w26 ⟨rfl, g26⟩; have G26 := Lib.hid (G25.out.trans g26); clear g26))
                go_ret
                exact ⟨rfl, G26.out⟩
              · clear YD
                go_wp2_with (go_at_call 10; (with_reducible refine (AW.out _).mono ?_); rintro e w26 ⟨rfl, g26⟩; have G26 := Lib.hid (G23.out.trans g26); clear g26)
                go_ret
                exact ⟨rfl, G26.out⟩
            · clear YD
              go_wp2_with (go_at_call 10; (with_reducible refine (AW.out _).mono ?_); rintro e w26 ⟨rfl, g26⟩; have G26 := Lib.hid (G23.out.trans g26); clear g26)
              go_ret
              exact ⟨rfl, G26.out⟩
          · clear YD
            go_wp2_with (go_at_call 10; (with_reducible refine (AW.out _).mono ?_); rintro e w26 ⟨rfl, g26⟩; have G26 := Lib.hid (G23.out.trans g26); clear g26)
            go_ret
            exact ⟨rfl, G26.out⟩
        · clear YD
          go_wp2_with (go_at_call 10; (with_reducible refine (AW.out _).mono ?_); rintro e w26 ⟨rfl, g26⟩; have G26 := Lib.hid (G23.out.trans g26); clear g26)
          go_ret
          exact ⟨rfl, G26.out⟩
end Go.Proofs.YtehdemcfeoiecaaDoor.provRings
