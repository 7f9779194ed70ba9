/- ProvNumbers: its walk at two valid sums, and numbers and costs that are ones. -/
import Derived.Test.YtehdemcfeoiecaaDoorFra
import Derived.Test.YtehdemcfeoiecaaDoorV13
import Derived.Deep.DeepCutAuto
namespace Go.Proofs.YtehdemcfeoiecaaDoor.provNumbers
open Go.ChangeShapes Go.WideShapes Go.ChangeAt Go.RowKit Go.Firn

/-- A sum that is read. -/
abbrev Rd (w : World) (a : Option Addr) (L : SL) : Prop := RdS w a L.length (sx L) (sy L)
theorem refValid_list (a : Option Addr) (c : Nat) (L : SL) (w : World) (h : vL L = true) (hr : RdS w a L.length (sx L) (sy L)) : Calls Tryd.prog 20 #[.slice a L.length c] w (RetB true w) := by
  have := refValidSum_any a L.length c (sx L) (sy L) w (vL_len h) (vL_size h) hr
  rw [show vS (sx L) (sy L) L.length = true from h] at this
  exact this
theorem are_list (a : Option Addr) (n c : Nat) (l : Nat → Int) (B : Int) (w : World) (h : nmB l n B = true) (hr : RdI w a n l) : Calls Tryd.prog 23 #[.slice a n c, .int .i64 B] w (RetB true w) := by
  have := AreNumbers_any a n c l B w (by have := (nmB_at h).1; omega) hr
  rw [h] at this
  exact this
theorem wrap_in {x : Int} (h0 : 0 ≤ x) (h : x ≤ 8000000000000000000) : IntKind.i64.wrap x = x := IntWalk.i64_in _ (by omega)

set_option maxHeartbeats 8000000 in
set_option maxRecDepth 100000 in
theorem walk_ok (a1 a2 a3 a4 : Option Addr) (c1 c2 n3 c3 n4 c4 : Nat) (s t : SL) (l q : Nat → Int) (w : World) (hs : vL s = true) (ht : vL t = true) (hl : nmB l n3 10 = true) (hq : nmB q n4 1000 = true) (hr1 : Rd w a1 s) (hr2 : Rd w a2 t) (hl3 : RdI w a3 n3 l) (hl4 : RdI w a4 n4 q) :
    Calls Tryd.prog 6 #[.slice a1 s.length c1, .slice a2 t.length c2, .slice a3 n3 c3, .slice a4 n4 c4] w (RetB true w) := by
  have D1 := Lib.hid (fun wx (k : Gr w wx) => refValid_list a1 c1 s wx hs (hr1.gr k))
  have D2 := Lib.hid (fun wx (k : Gr w wx) => refValid_list a2 c2 t wx ht (hr2.gr k))
  have D3 := Lib.hid (fun wx (k : Gr w wx) => are_list a3 n3 c3 l 10 wx hl (hl3.gr k))
  have D4 := Lib.hid (fun wx (k : Gr w wx) => are_list a4 n4 c4 q 1000 wx hq (hl4.gr k))
  have A1 := Lib.hid (fun wx (k : Gr w wx) => Value_list a1 a3 c1 n3 c3 s l wx hs hl (hr1.gr k) (hl3.gr k))
  have A2 := Lib.hid (fun wx (k : Gr w wx) => Value_list a2 a3 c2 n3 c3 t l wx ht hl (hr2.gr k) (hl3.gr k))
  have A3 := Lib.hid (fun wx (k : Gr w wx) => Cost_list a1 a4 c1 n4 c4 s q wx hs hq (hr1.gr k) (hl4.gr k))
  have A4 := Lib.hid (fun wx (k : Gr w wx) => Cost_list a2 a4 c2 n4 c4 t q wx ht hq (hr2.gr k) (hl4.gr k))
  have B1 := Lib.hid (fun wx (k : Gr w wx) => Plus_list a1 a2 c1 c2 s t wx hs ht (hr1.gr k) (hr2.gr k))
  have B2 := Lib.hid (fun wx (k : Gr w wx) => Times_list a1 a2 c1 c2 s t wx hs ht (hr1.gr k) (hr2.gr k))
  have vP : vL (opA false s t) = true := opA_vL hs ht
  have vQ : vL (opA true s t) = true := opA_vL hs ht
  have X1 := Lib.hid (fun bb dd wx (k : Gr w wx) k' => Value_list bb a3 dd n3 c3 (opA false s t) l wx vP hl k' (hl3.gr k))
  have X2 := Lib.hid (fun bb dd wx (k : Gr w wx) k' => Cost_list bb a4 dd n4 c4 (opA false s t) q wx vP hq k' (hl4.gr k))
  have X3 := Lib.hid (fun bb dd wx (k : Gr w wx) k' => Value_list bb a3 dd n3 c3 (opA true s t) l wx vQ hl k' (hl3.gr k))
  have X4 := Lib.hid (fun bb dd wx (k : Gr w wx) k' => Cost_list bb a4 dd n4 c4 (opA true s t) q wx vQ hq k' (hl4.gr k))
  have hE : opE false s t = 0 ∨ opE false s t = 4 := (opE_is false s t).imp (·.1) (·.1)
  have hF : opE true s t = 0 ∨ opE true s t = 4 := (opE_is true s t).imp (·.1) (·.1)
  -- numbers
  have N1 := Lib.hid (fun h => val_plus l (s := s) (t := t) h)
  have N2 := Lib.hid (fun h => val_times l (s := s) (t := t) h)
  have N3 := Lib.hid (fun h => len_plus (s := s) ht h)
  have N4 := Lib.hid (fun h => len_times hs ht h)
  have N5 := Lib.hid (fun h k => cst_plus q hs ht h k)
  have N6 := Lib.hid (fun h k k' => cst_times q hs ht h k k')
  have N7 := Lib.hid (And.intro (val_bd hs hl) (val_bd ht hl))
  have N8 := Lib.hid (val_bd vQ hl)
  have N9 := Lib.hid (And.intro (cst_bd hs hq) (cst_bd ht hq))
  have L7 := Lib.hid (And.intro (vL_ok hs).le (vL_ok ht).le)
  unfold erC at A3 A4 X2 X4
  clear hs ht hl hq hr1 hr2 hl3 hl4 vP vQ
  generalize valL l (opA false s t) = vP at X1 N1
  generalize valL l (opA true s t) = vQ at X3 N2 N8
  generalize cstL q (opA false s t) = kP at X2 N5
  generalize cstL q (opA true s t) = kQ at X4 N6
  generalize opE false s t = E at B1 hE N1 N3 N5
  generalize opE true s t = F at B2 hF N2 N4 N6
  generalize opA false s t = P at B1 X1 X2 N3 N5
  generalize opA true s t = Q at B2 X3 X4 N4
  generalize valL l s = v1 at A1 N1 N2 N7
  generalize valL l t = v2 at A2 N1 N2 N7
  generalize cstL q s = k1 at A3 N5 N6 N9
  generalize cstL q t = k2 at A4 N5 N6 N9
  have LS := Lib.hid (fun wx => least_any k1 k2 s.length t.length wx)
  generalize s.length = ns at *
  generalize t.length = nt at *
  have HE := Lib.hid hE
  have HF := Lib.hid hF
  clear hE hF
  -- which of the two are empty
  have CS : ∀ n : Nat, ((if n = 0 then (5 : Int) else 0) = 5 ∧ n = 0) ∨ ((if n = 0 then (5 : Int) else 0) = 0 ∧ 0 < n) := fun n => by
    rcases Nat.eq_zero_or_pos n with h | h
    · exact .inl ⟨by rw [if_pos h], h⟩
    · exact .inr ⟨by rw [if_neg (by omega)], h⟩
  obtain ⟨e1, he1⟩ : ∃ e, e = (if ns = 0 then (5 : Int) else 0) := ⟨_, rfl⟩
  obtain ⟨e2, he2⟩ : ∃ e, e = (if nt = 0 then (5 : Int) else 0) := ⟨_, rfl⟩
  obtain ⟨e3, he3⟩ : ∃ e, e = (if P.length = 0 then (5 : Int) else 0) := ⟨_, rfl⟩
  obtain ⟨e4, he4⟩ : ∃ e, e = (if Q.length = 0 then (5 : Int) else 0) := ⟨_, rfl⟩
  rw [← he1] at A3
  rw [← he2] at A4
  rw [← he3] at X2
  rw [← he4] at X4
  have C1 := CS ns
  have C2 := CS nt
  have C3 := Lib.hid (CS P.length)
  have C4 := Lib.hid (CS Q.length)
  rw [← he1] at C1
  rw [← he2] at C2
  rw [← he3] at C3
  rw [← he4] at C4
  clear he1 he2 he3 he4 CS
  rcases C1 with ⟨rfl, rfl⟩ | ⟨rfl, h1⟩
  · rcases C2 with ⟨rfl, rfl⟩ | ⟨rfl, h2⟩
    · go_enter Tryd.func6, Tryd.ntmps6
      go_upto_if 99 with (first
        | (go_at_call 20; (with_reducible refine (D1.out _ (Gr.refl w)).mono ?_); rintro e w1 ⟨rfl, g1⟩; have G1 := Lib.hid g1; clear g1 D1)
        | (go_at_call 20; (with_reducible refine (D2.out _ G1.out).mono ?_); rintro e w2 ⟨rfl, g2⟩; have G2 := Lib.hid (G1.out.trans g2); clear g2 D2)
        | (go_at_call 23; (with_reducible refine (D3.out _ G2.out).mono ?_); rintro e w3 ⟨rfl, g3⟩; have G3 := Lib.hid (G2.out.trans g3); clear g3 D3)
        | (go_at_call 23; (with_reducible refine (D4.out _ G3.out).mono ?_); rintro e w4 ⟨rfl, g4⟩; have G4 := Lib.hid (G3.out.trans g4); clear g4 D4)
        | (go_at_call 11; (with_reducible refine (A1.out _ G4.out).mono ?_); rintro e w5 ⟨rfl, g5⟩; have G5 := Lib.hid (G4.out.trans g5); clear g5 A1)
        | (go_at_call 11; (with_reducible refine (A2.out _ G5.out).mono ?_); rintro e w6 ⟨rfl, g6⟩; have G6 := Lib.hid (G5.out.trans g6); clear g6 A2)
        | (go_at_call 13; (with_reducible refine (A3.out _ G6.out).mono ?_); rintro e w7 ⟨rfl, g7⟩; have G7 := Lib.hid (G6.out.trans g7); clear g7 A3)
        | (go_at_call 13; (with_reducible refine (A4.out _ G7.out).mono ?_); rintro e w8 ⟨rfl, g8⟩; have G8 := Lib.hid (G7.out.trans g8); clear g8 A4)
        | (go_at_call 15; (with_reducible refine (B1.out _ G8.out).mono ?_); rintro e w9 ⟨b1, d1, rfl, q1, q2, q3, g9⟩; have U1 := Lib.hid q3; have G9 := Lib.hid (G8.out.trans g9); clear g9 q1 q2 q3 B1))
      go_cut [18, 19, 20, 21] (fun _ _ _ _ wx => Hid (Gr w wx))
      case first =>
        clear B2 X3 X4 N2 N4 N6 N8 HF C4
        have hE := HE.out
        clear HE
        rcases hE with rfl | rfl
        · have n1 := N1.out rfl
          have n3 := N3.out rfl
          have n5 := N5.out rfl
          have n7 := N7.out
          have n9 := L7.out
          have wv : IntKind.i64.wrap (v1 + v2) = v1 + v2 := wrap_in (by omega) (by omega)
          subst n1
          have zv : ((v1 + v2) != (v1 + v2)) = false := by simp
          rcases C3.out with ⟨rfl, c3⟩ | ⟨_, c3⟩
          · clear n3 n5 n7 n9 c3 N1 N3 N5 N7 N9 L7 C3 LS
            go_wp2_with (first
              | (go_at_call 11; (with_reducible refine (X1.out _ _ _ G9.out U1.out).mono ?_); rintro e w10 ⟨rfl, g10⟩; have G10 := Lib.hid (G9.out.trans g10); have U1 := Lib.hid (U1.out.gr g10); clear g10 X1)
              | (go_at_call 13; (with_reducible refine (X2.out _ _ _ G10.out U1.out).mono ?_); rintro e w11 ⟨rfl, g11⟩; have G11 := Lib.hid (G10.out.trans g11); clear g11 X2)
              | (go_at_call 24; (with_reducible refine (LS.out _).mono ?_); rintro e w12 ⟨rfl, rfl⟩))
            go_meet
            exact Lib.hid G11.out
          · exact absurd (n3.2 (by simp)) (by omega)
        · clear N1 N3 N5 N7 N9 L7 C3 X1 X2 LS
          go_wp2_with fail
          go_meet
          exact Lib.hid G9.out
      case rest =>
        have G12 := hcut
        clear hcut U1 G1 G2 G3 G4 G5 G6 G7 G8 G9 X1 X2 LS C3 HE N1 N3 N5
        have hF := HF.out
        clear HF
        have AW := Lib.hid (fun wx => Awake_any wx)
        rcases hF with rfl | rfl
        · have n2 := N2.out rfl
          have n4 := N4.out rfl
          have n6 := N6.out rfl
          have n8 := N8.out
          have n9 := N9.out
          have l7 := L7.out
          subst n2
          have wv : IntKind.i64.wrap (v1 * v2) = v1 * v2 := wrap_in n8.1 (by have := n8.2; omega)
          have zv : ((v1 * v2) == (v1 * v2)) = true := by simp
          rcases C4.out with ⟨rfl, c4⟩ | ⟨_, c4⟩
          · clear n4 n6 n8 n9 l7 c4 N2 N4 N6 N8 N7 N9 L7 C4
            go_wp2_with (first
              | (go_at_call 17; (with_reducible refine (B2.out _ G12.out).mono ?_); rintro e w13 ⟨b2, d2, rfl, q1, q2, q3, g13⟩; have U2 := Lib.hid q3; have G13 := Lib.hid (G12.out.trans g13); clear g13 q1 q2 q3 B2)
              | (go_at_call 11; (with_reducible refine (X3.out _ _ _ G13.out U2.out).mono ?_); rintro e w14 ⟨rfl, g14⟩; have G14 := Lib.hid (G13.out.trans g14); have U2 := Lib.hid (U2.out.gr g14); clear g14 X3)
              | (go_at_call 13; (with_reducible refine (X4.out _ _ _ G14.out U2.out).mono ?_); rintro e w15 ⟨rfl, g15⟩; have G15 := Lib.hid (G14.out.trans g15); clear g15 X4)
              | (go_at_call 10; (with_reducible refine (AW.out _).mono ?_); rintro e w16 ⟨rfl, g16⟩; have G16 := Lib.hid (G15.out.trans g16); clear g16))
            go_ret
            exact ⟨rfl, G16.out⟩
          · exact absurd (n4.2 (by simp)) (by omega)
        · clear N2 N4 N6 N8 N7 N9 L7 C4 X3 X4
          go_wp2_with (first
            | (go_at_call 17; (with_reducible refine (B2.out _ G12.out).mono ?_); rintro e w13 ⟨b2, d2, rfl, q1, q2, q3, g13⟩; have U2 := Lib.hid q3; have G13 := Lib.hid (G12.out.trans g13); clear g13 q1 q2 q3 B2)
            | (go_at_call 10; (with_reducible refine (AW.out _).mono ?_); rintro e w16 ⟨rfl, g16⟩; have G16 := Lib.hid (G13.out.trans g16); clear g16))
          go_ret
          exact ⟨rfl, G16.out⟩
    · go_enter Tryd.func6, Tryd.ntmps6
      go_upto_if 99 with (first
        | (go_at_call 20; (with_reducible refine (D1.out _ (Gr.refl w)).mono ?_); rintro e w1 ⟨rfl, g1⟩; have G1 := Lib.hid g1; clear g1 D1)
        | (go_at_call 20; (with_reducible refine (D2.out _ G1.out).mono ?_); rintro e w2 ⟨rfl, g2⟩; have G2 := Lib.hid (G1.out.trans g2); clear g2 D2)
        | (go_at_call 23; (with_reducible refine (D3.out _ G2.out).mono ?_); rintro e w3 ⟨rfl, g3⟩; have G3 := Lib.hid (G2.out.trans g3); clear g3 D3)
        | (go_at_call 23; (with_reducible refine (D4.out _ G3.out).mono ?_); rintro e w4 ⟨rfl, g4⟩; have G4 := Lib.hid (G3.out.trans g4); clear g4 D4)
        | (go_at_call 11; (with_reducible refine (A1.out _ G4.out).mono ?_); rintro e w5 ⟨rfl, g5⟩; have G5 := Lib.hid (G4.out.trans g5); clear g5 A1)
        | (go_at_call 11; (with_reducible refine (A2.out _ G5.out).mono ?_); rintro e w6 ⟨rfl, g6⟩; have G6 := Lib.hid (G5.out.trans g6); clear g6 A2)
        | (go_at_call 13; (with_reducible refine (A3.out _ G6.out).mono ?_); rintro e w7 ⟨rfl, g7⟩; have G7 := Lib.hid (G6.out.trans g7); clear g7 A3)
        | (go_at_call 13; (with_reducible refine (A4.out _ G7.out).mono ?_); rintro e w8 ⟨rfl, g8⟩; have G8 := Lib.hid (G7.out.trans g8); clear g8 A4)
        | (go_at_call 15; (with_reducible refine (B1.out _ G8.out).mono ?_); rintro e w9 ⟨b1, d1, rfl, q1, q2, q3, g9⟩; have U1 := Lib.hid q3; have G9 := Lib.hid (G8.out.trans g9); clear g9 q1 q2 q3 B1))
      go_cut [18, 19, 20, 21] (fun _ _ _ _ wx => Hid (Gr w wx))
      case first =>
        clear B2 X3 X4 N2 N4 N6 N8 HF C4
        have hE := HE.out
        clear HE
        rcases hE with rfl | rfl
        · have n1 := N1.out rfl
          have n3 := N3.out rfl
          have n5 := N5.out rfl
          have n7 := N7.out
          have n9 := L7.out
          have wv : IntKind.i64.wrap (v1 + v2) = v1 + v2 := wrap_in (by omega) (by omega)
          subst n1
          have zv : ((v1 + v2) != (v1 + v2)) = false := by simp
          rcases C3.out with ⟨_, c3⟩ | ⟨rfl, c3⟩
          · exact absurd (n3.1 c3) (by omega)
          · have n5 := n5 (by omega)
            rw [n5] at X2
            have zk : (lst k1 k2 0 nt != lst k1 k2 0 nt) = false := by simp
            have LS := Lib.hid (fun wx => show Calls Tryd.prog 24 #[.int .i64 k1, .int .i64 k2, .int .i64 0, .int .i64 (nt : Int)] wx _ from LS.out wx)
            have wl : IntKind.i64.wrap (nt : Int) = (nt : Int) := wrap_in (by omega) (by omega)
            clear n3 n7 n9 c3 N1 N3 N5 N7 N9 L7 C3
            go_wp2_with (first
              | (go_at_call 11; (with_reducible refine (X1.out _ _ _ G9.out U1.out).mono ?_); rintro e w10 ⟨rfl, g10⟩; have G10 := Lib.hid (G9.out.trans g10); have U1 := Lib.hid (U1.out.gr g10); clear g10 X1)
              | (go_at_call 13; (with_reducible refine (X2.out _ _ _ G10.out U1.out).mono ?_); rintro e w11 ⟨rfl, g11⟩; have G11 := Lib.hid (G10.out.trans g11); clear g11 X2)
              | (go_at_call 24; (with_reducible refine (LS.out _).mono ?_); rintro e w12 ⟨rfl, rfl⟩))
            go_meet
            exact Lib.hid G11.out
        · clear N1 N3 N5 N7 N9 L7 C3 X1 X2 LS
          go_wp2_with fail
          go_meet
          exact Lib.hid G9.out
      case rest =>
        have G12 := hcut
        clear hcut U1 G1 G2 G3 G4 G5 G6 G7 G8 G9 X1 X2 LS C3 HE N1 N3 N5
        have hF := HF.out
        clear HF
        have AW := Lib.hid (fun wx => Awake_any wx)
        rcases hF with rfl | rfl
        · have n2 := N2.out rfl
          have n4 := N4.out rfl
          have n6 := N6.out rfl
          have n8 := N8.out
          have n9 := N9.out
          have l7 := L7.out
          subst n2
          have wv : IntKind.i64.wrap (v1 * v2) = v1 * v2 := wrap_in n8.1 (by have := n8.2; omega)
          have zv : ((v1 * v2) == (v1 * v2)) = true := by simp
          rcases C4.out with ⟨rfl, c4⟩ | ⟨_, c4⟩
          · clear n4 n6 n8 n9 l7 c4 N2 N4 N6 N8 N7 N9 L7 C4
            go_wp2_with (first
              | (go_at_call 17; (with_reducible refine (B2.out _ G12.out).mono ?_); rintro e w13 ⟨b2, d2, rfl, q1, q2, q3, g13⟩; have U2 := Lib.hid q3; have G13 := Lib.hid (G12.out.trans g13); clear g13 q1 q2 q3 B2)
              | (go_at_call 11; (with_reducible refine (X3.out _ _ _ G13.out U2.out).mono ?_); rintro e w14 ⟨rfl, g14⟩; have G14 := Lib.hid (G13.out.trans g14); have U2 := Lib.hid (U2.out.gr g14); clear g14 X3)
              | (go_at_call 13; (with_reducible refine (X4.out _ _ _ G14.out U2.out).mono ?_); rintro e w15 ⟨rfl, g15⟩; have G15 := Lib.hid (G14.out.trans g15); clear g15 X4)
              | (go_at_call 10; (with_reducible refine (AW.out _).mono ?_); rintro e w16 ⟨rfl, g16⟩; have G16 := Lib.hid (G15.out.trans g16); clear g16))
            go_ret
            exact ⟨rfl, G16.out⟩
          · exact absurd (n4.2 (by simp)) (by omega)
        · clear N2 N4 N6 N8 N7 N9 L7 C4 X3 X4
          go_wp2_with (first
            | (go_at_call 17; (with_reducible refine (B2.out _ G12.out).mono ?_); rintro e w13 ⟨b2, d2, rfl, q1, q2, q3, g13⟩; have U2 := Lib.hid q3; have G13 := Lib.hid (G12.out.trans g13); clear g13 q1 q2 q3 B2)
            | (go_at_call 10; (with_reducible refine (AW.out _).mono ?_); rintro e w16 ⟨rfl, g16⟩; have G16 := Lib.hid (G13.out.trans g16); clear g16))
          go_ret
          exact ⟨rfl, G16.out⟩
  · rcases C2 with ⟨rfl, rfl⟩ | ⟨rfl, h2⟩
    · go_enter Tryd.func6, Tryd.ntmps6
      go_upto_if 99 with (first
        | (go_at_call 20; (with_reducible refine (D1.out _ (Gr.refl w)).mono ?_); rintro e w1 ⟨rfl, g1⟩; have G1 := Lib.hid g1; clear g1 D1)
        | (go_at_call 20; (with_reducible refine (D2.out _ G1.out).mono ?_); rintro e w2 ⟨rfl, g2⟩; have G2 := Lib.hid (G1.out.trans g2); clear g2 D2)
        | (go_at_call 23; (with_reducible refine (D3.out _ G2.out).mono ?_); rintro e w3 ⟨rfl, g3⟩; have G3 := Lib.hid (G2.out.trans g3); clear g3 D3)
        | (go_at_call 23; (with_reducible refine (D4.out _ G3.out).mono ?_); rintro e w4 ⟨rfl, g4⟩; have G4 := Lib.hid (G3.out.trans g4); clear g4 D4)
        | (go_at_call 11; (with_reducible refine (A1.out _ G4.out).mono ?_); rintro e w5 ⟨rfl, g5⟩; have G5 := Lib.hid (G4.out.trans g5); clear g5 A1)
        | (go_at_call 11; (with_reducible refine (A2.out _ G5.out).mono ?_); rintro e w6 ⟨rfl, g6⟩; have G6 := Lib.hid (G5.out.trans g6); clear g6 A2)
        | (go_at_call 13; (with_reducible refine (A3.out _ G6.out).mono ?_); rintro e w7 ⟨rfl, g7⟩; have G7 := Lib.hid (G6.out.trans g7); clear g7 A3)
        | (go_at_call 13; (with_reducible refine (A4.out _ G7.out).mono ?_); rintro e w8 ⟨rfl, g8⟩; have G8 := Lib.hid (G7.out.trans g8); clear g8 A4)
        | (go_at_call 15; (with_reducible refine (B1.out _ G8.out).mono ?_); rintro e w9 ⟨b1, d1, rfl, q1, q2, q3, g9⟩; have U1 := Lib.hid q3; have G9 := Lib.hid (G8.out.trans g9); clear g9 q1 q2 q3 B1))
      go_cut [18, 19, 20, 21] (fun _ _ _ _ wx => Hid (Gr w wx))
      case first =>
        clear B2 X3 X4 N2 N4 N6 N8 HF C4
        have hE := HE.out
        clear HE
        rcases hE with rfl | rfl
        · have n1 := N1.out rfl
          have n3 := N3.out rfl
          have n5 := N5.out rfl
          have n7 := N7.out
          have n9 := L7.out
          have wv : IntKind.i64.wrap (v1 + v2) = v1 + v2 := wrap_in (by omega) (by omega)
          subst n1
          have zv : ((v1 + v2) != (v1 + v2)) = false := by simp
          rcases C3.out with ⟨_, c3⟩ | ⟨rfl, c3⟩
          · exact absurd (n3.1 c3) (by omega)
          · have n5 := n5 (by omega)
            rw [n5] at X2
            have zk : (lst k1 k2 ns 0 != lst k1 k2 ns 0) = false := by simp
            have LS := Lib.hid (fun wx => show Calls Tryd.prog 24 #[.int .i64 k1, .int .i64 k2, .int .i64 (ns : Int), .int .i64 0] wx _ from LS.out wx)
            have wl : IntKind.i64.wrap (ns : Int) = (ns : Int) := wrap_in (by omega) (by omega)
            clear n3 n7 n9 c3 N1 N3 N5 N7 N9 L7 C3
            go_wp2_with (first
              | (go_at_call 11; (with_reducible refine (X1.out _ _ _ G9.out U1.out).mono ?_); rintro e w10 ⟨rfl, g10⟩; have G10 := Lib.hid (G9.out.trans g10); have U1 := Lib.hid (U1.out.gr g10); clear g10 X1)
              | (go_at_call 13; (with_reducible refine (X2.out _ _ _ G10.out U1.out).mono ?_); rintro e w11 ⟨rfl, g11⟩; have G11 := Lib.hid (G10.out.trans g11); clear g11 X2)
              | (go_at_call 24; (with_reducible refine (LS.out _).mono ?_); rintro e w12 ⟨rfl, rfl⟩))
            go_meet
            exact Lib.hid G11.out
        · clear N1 N3 N5 N7 N9 L7 C3 X1 X2 LS
          go_wp2_with fail
          go_meet
          exact Lib.hid G9.out
      case rest =>
        have G12 := hcut
        clear hcut U1 G1 G2 G3 G4 G5 G6 G7 G8 G9 X1 X2 LS C3 HE N1 N3 N5
        have hF := HF.out
        clear HF
        have AW := Lib.hid (fun wx => Awake_any wx)
        rcases hF with rfl | rfl
        · have n2 := N2.out rfl
          have n4 := N4.out rfl
          have n6 := N6.out rfl
          have n8 := N8.out
          have n9 := N9.out
          have l7 := L7.out
          subst n2
          have wv : IntKind.i64.wrap (v1 * v2) = v1 * v2 := wrap_in n8.1 (by have := n8.2; omega)
          have zv : ((v1 * v2) == (v1 * v2)) = true := by simp
          rcases C4.out with ⟨rfl, c4⟩ | ⟨_, c4⟩
          · clear n4 n6 n8 n9 l7 c4 N2 N4 N6 N8 N7 N9 L7 C4
            go_wp2_with (first
              | (go_at_call 17; (with_reducible refine (B2.out _ G12.out).mono ?_); rintro e w13 ⟨b2, d2, rfl, q1, q2, q3, g13⟩; have U2 := Lib.hid q3; have G13 := Lib.hid (G12.out.trans g13); clear g13 q1 q2 q3 B2)
              | (go_at_call 11; (with_reducible refine (X3.out _ _ _ G13.out U2.out).mono ?_); rintro e w14 ⟨rfl, g14⟩; have G14 := Lib.hid (G13.out.trans g14); have U2 := Lib.hid (U2.out.gr g14); clear g14 X3)
              | (go_at_call 13; (with_reducible refine (X4.out _ _ _ G14.out U2.out).mono ?_); rintro e w15 ⟨rfl, g15⟩; have G15 := Lib.hid (G14.out.trans g15); clear g15 X4)
              | (go_at_call 10; (with_reducible refine (AW.out _).mono ?_); rintro e w16 ⟨rfl, g16⟩; have G16 := Lib.hid (G15.out.trans g16); clear g16))
            go_ret
            exact ⟨rfl, G16.out⟩
          · exact absurd (n4.2 (by simp)) (by omega)
        · clear N2 N4 N6 N8 N7 N9 L7 C4 X3 X4
          go_wp2_with (first
            | (go_at_call 17; (with_reducible refine (B2.out _ G12.out).mono ?_); rintro e w13 ⟨b2, d2, rfl, q1, q2, q3, g13⟩; have U2 := Lib.hid q3; have G13 := Lib.hid (G12.out.trans g13); clear g13 q1 q2 q3 B2)
            | (go_at_call 10; (with_reducible refine (AW.out _).mono ?_); rintro e w16 ⟨rfl, g16⟩; have G16 := Lib.hid (G13.out.trans g16); clear g16))
          go_ret
          exact ⟨rfl, G16.out⟩
    · go_enter Tryd.func6, Tryd.ntmps6
      go_upto_if 99 with (first
        | (go_at_call 20; (with_reducible refine (D1.out _ (Gr.refl w)).mono ?_); rintro e w1 ⟨rfl, g1⟩; have G1 := Lib.hid g1; clear g1 D1)
        | (go_at_call 20; (with_reducible refine (D2.out _ G1.out).mono ?_); rintro e w2 ⟨rfl, g2⟩; have G2 := Lib.hid (G1.out.trans g2); clear g2 D2)
        | (go_at_call 23; (with_reducible refine (D3.out _ G2.out).mono ?_); rintro e w3 ⟨rfl, g3⟩; have G3 := Lib.hid (G2.out.trans g3); clear g3 D3)
        | (go_at_call 23; (with_reducible refine (D4.out _ G3.out).mono ?_); rintro e w4 ⟨rfl, g4⟩; have G4 := Lib.hid (G3.out.trans g4); clear g4 D4)
        | (go_at_call 11; (with_reducible refine (A1.out _ G4.out).mono ?_); rintro e w5 ⟨rfl, g5⟩; have G5 := Lib.hid (G4.out.trans g5); clear g5 A1)
        | (go_at_call 11; (with_reducible refine (A2.out _ G5.out).mono ?_); rintro e w6 ⟨rfl, g6⟩; have G6 := Lib.hid (G5.out.trans g6); clear g6 A2)
        | (go_at_call 13; (with_reducible refine (A3.out _ G6.out).mono ?_); rintro e w7 ⟨rfl, g7⟩; have G7 := Lib.hid (G6.out.trans g7); clear g7 A3)
        | (go_at_call 13; (with_reducible refine (A4.out _ G7.out).mono ?_); rintro e w8 ⟨rfl, g8⟩; have G8 := Lib.hid (G7.out.trans g8); clear g8 A4)
        | (go_at_call 15; (with_reducible refine (B1.out _ G8.out).mono ?_); rintro e w9 ⟨b1, d1, rfl, q1, q2, q3, g9⟩; have U1 := Lib.hid q3; have G9 := Lib.hid (G8.out.trans g9); clear g9 q1 q2 q3 B1))
      go_cut [18, 19, 20, 21] (fun _ _ _ _ wx => Hid (Gr w wx))
      case first =>
        clear B2 X3 X4 N2 N4 N6 N8 HF C4
        have hE := HE.out
        clear HE
        rcases hE with rfl | rfl
        · have n1 := N1.out rfl
          have n3 := N3.out rfl
          have n5 := N5.out rfl
          have n7 := N7.out
          have n9 := L7.out
          have wv : IntKind.i64.wrap (v1 + v2) = v1 + v2 := wrap_in (by omega) (by omega)
          subst n1
          have zv : ((v1 + v2) != (v1 + v2)) = false := by simp
          rcases C3.out with ⟨_, c3⟩ | ⟨rfl, c3⟩
          · exact absurd (n3.1 c3) (by omega)
          · have n5 := n5 (by omega)
            rw [n5] at X2
            have zk : (lst k1 k2 ns nt != lst k1 k2 ns nt) = false := by simp
            have LS := Lib.hid (fun wx => show Calls Tryd.prog 24 #[.int .i64 k1, .int .i64 k2, .int .i64 (ns : Int), .int .i64 (nt : Int)] wx _ from LS.out wx)
            obtain ⟨mm, hmm⟩ : ∃ m : Nat, m = ns + nt := ⟨_, rfl⟩
            have wl : IntKind.i64.wrap ((ns : Int) + (nt : Int)) = (mm : Int) := by rw [wrap_in (by omega) (by omega)]; omega
            have pl : 0 < mm := by omega
            clear hmm
            clear n3 n7 n9 c3 N1 N3 N5 N7 N9 L7 C3
            go_wp2_with (first
              | (go_at_call 11; (with_reducible refine (X1.out _ _ _ G9.out U1.out).mono ?_); rintro e w10 ⟨rfl, g10⟩; have G10 := Lib.hid (G9.out.trans g10); have U1 := Lib.hid (U1.out.gr g10); clear g10 X1)
              | (go_at_call 13; (with_reducible refine (X2.out _ _ _ G10.out U1.out).mono ?_); rintro e w11 ⟨rfl, g11⟩; have G11 := Lib.hid (G10.out.trans g11); clear g11 X2)
              | (go_at_call 24; (with_reducible refine (LS.out _).mono ?_); rintro e w12 ⟨rfl, rfl⟩))
            go_meet
            exact Lib.hid G11.out
        · clear N1 N3 N5 N7 N9 L7 C3 X1 X2 LS
          go_wp2_with fail
          go_meet
          exact Lib.hid G9.out
      case rest =>
        have G12 := hcut
        clear hcut U1 G1 G2 G3 G4 G5 G6 G7 G8 G9 X1 X2 LS C3 HE N1 N3 N5
        have hF := HF.out
        clear HF
        have AW := Lib.hid (fun wx => Awake_any wx)
        rcases hF with rfl | rfl
        · have n2 := N2.out rfl
          have n4 := N4.out rfl
          have n6 := N6.out rfl
          have n8 := N8.out
          have n9 := N9.out
          have l7 := L7.out
          subst n2
          have wv : IntKind.i64.wrap (v1 * v2) = v1 * v2 := wrap_in n8.1 (by have := n8.2; omega)
          have zv : ((v1 * v2) == (v1 * v2)) = true := by simp
          rcases C4.out with ⟨_, c4⟩ | ⟨rfl, c4⟩
          · exact absurd (n4.1 c4) (by omega)
          · have n6 := n6 (by omega) (by omega)
            subst n6
            have wk : IntKind.i64.wrap (k1 + k2) = k1 + k2 := wrap_in (by omega) (by omega)
            have zk : ((k1 + k2) == (k1 + k2)) = true := by simp
            clear n4 n8 n9 l7 c4 N2 N4 N6 N8 N7 N9 L7 C4
            go_wp2_with (first
              | (go_at_call 17; (with_reducible refine (B2.out _ G12.out).mono ?_); rintro e w13 ⟨b2, d2, rfl, q1, q2, q3, g13⟩; have U2 := Lib.hid q3; have G13 := Lib.hid (G12.out.trans g13); clear g13 q1 q2 q3 B2)
              | (go_at_call 11; (with_reducible refine (X3.out _ _ _ G13.out U2.out).mono ?_); rintro e w14 ⟨rfl, g14⟩; have G14 := Lib.hid (G13.out.trans g14); have U2 := Lib.hid (U2.out.gr g14); clear g14 X3)
              | (go_at_call 13; (with_reducible refine (X4.out _ _ _ G14.out U2.out).mono ?_); rintro e w15 ⟨rfl, g15⟩; have G15 := Lib.hid (G14.out.trans g15); clear g15 X4)
              | (go_at_call 10; (with_reducible refine (AW.out _).mono ?_); rintro e w16 ⟨rfl, g16⟩; have G16 := Lib.hid (G15.out.trans g16); clear g16))
            go_ret
            exact ⟨rfl, G16.out⟩
        · clear N2 N4 N6 N8 N7 N9 L7 C4 X3 X4
          go_wp2_with (first
            | (go_at_call 17; (with_reducible refine (B2.out _ G12.out).mono ?_); rintro e w13 ⟨b2, d2, rfl, q1, q2, q3, g13⟩; have U2 := Lib.hid q3; have G13 := Lib.hid (G12.out.trans g13); clear g13 q1 q2 q3 B2)
            | (go_at_call 10; (with_reducible refine (AW.out _).mono ?_); rintro e w16 ⟨rfl, g16⟩; have G16 := Lib.hid (G13.out.trans g16); clear g16))
          go_ret
          exact ⟨rfl, G16.out⟩
end Go.Proofs.YtehdemcfeoiecaaDoor.provNumbers
