/- ProvTexts: its walk. -/
import Derived.Test.YtehdemcfeoiecaaDoorFrt
import Derived.Test.YtehdemcfeoiecaaDoorV26
namespace Go.Proofs.YtehdemcfeoiecaaDoor.provTexts
open Go.ChangeShapes Go.WideShapes Go.ChangeAt Go.RowKit Go.Firn

theorem fm_list {L : SL} (h : vL L = true) (a : Option Addr) (c : Nat) (s : ByteArray) (hs : txL L = s.data.toList) (w : World) (hT : Pow10 w) (hr : RdS w a L.length (sx L) (sy L)) :
    Calls Tryd.prog 28 #[.slice a L.length c] w (RetTE s 0 w) := by
  have e := Format_any a L.length c (sx L) (sy L) w hT (vL_len h) (vL_size h) hr
  rw [show vS (sx L) (sy L) L.length = true from h, ofS_sx] at e
  have e2 : fmT true L = s := by unfold fmT; rw [if_pos rfl, hs]; rfl
  rw [e2] at e
  exact e
theorem pr_valid (K : Key) : vL (prO K).1 = true := by
  rcases pr_code K with h | ⟨_, h⟩
  · exact (pr_text h).2
  · rw [h]; decide


set_option maxHeartbeats 8000000 in
set_option maxRecDepth 100000 in
theorem walk_t0 (a : Option Addr) (c : Nat) (L R : SL) (s T : ByteArray) (w : World)
    (D9 : Hid (Calls Tryd.prog 9 #[.slice a L.length c] w (RetB false w)))
    (D28 : Hid (∀ wx, Gr w wx → Calls Tryd.prog 28 #[.slice a L.length c] wx (RetTE T 0 wx)))
    (D29 : Hid (∀ wx, Gr w wx → Calls Tryd.prog 29 #[.slice a L.length c] wx (RetTE T 0 wx)))
    (D30 : Hid (∀ wx, Gr w wx → Calls Tryd.prog 30 #[.string s] wx (RetSE R 0 wx)))
    (D31 : Hid (∀ wx, Gr w wx → Calls Tryd.prog 31 #[.string s] wx (RetSE R 0 wx)))
    (VR : Hid (vL R = true))
    (HW : Hid (RdS w a L.length (sx L) (sy L)))
    (i1 : ¬ ((s.size : Int) > 1000))
    (VL : Hid (vL L = true))
    (E30 : Hid (∀ wx, Gr w wx → Calls Tryd.prog 30 #[.string T] wx (RetSE L 0 wx)))
    (HP : Hid (Pow10 w))
    (HK : Hid (txL R = s.data.toList)) :
    Calls Tryd.prog 8 #[.slice a L.length c, .string s] w (RetB true w) := by
  have b1 : ∀ b : ByteArray, (b.toList == b.toList) = true := fun b => by simp
  have b2 := b1 s
  have b3 := b1 T
  clear b1
  go_enter Tryd.func8, Tryd.ntmps8
  go_wp2_with (first
    | (go_at_call 9; (with_reducible refine D9.out.mono ?_); rintro e w1 ⟨rfl, g1⟩; have G1 := Lib.hid g1; clear g1 D9)
    | (go_at_call 28; (with_reducible refine (D28.out _ G1.out).mono ?_); rintro e w2 ⟨rfl, g2⟩; have G2 := Lib.hid (G1.out.trans g2); clear g2 D28)
    | (go_at_call 29; (with_reducible refine (D29.out _ G2.out).mono ?_); rintro e w3 ⟨rfl, g3⟩; have G3 := Lib.hid (G2.out.trans g3); clear g3 D29)
    | (go_at_call 30; (with_reducible refine (D30.out _ G3.out).mono ?_); rintro e w4 ⟨a4, c4, rfl, _, _, rd4, g4⟩; have G4 := Lib.hid (G3.out.trans g4); have R4 := Lib.hid rd4; clear g4 rd4 D30)
    | (go_at_call 31; (with_reducible refine (D31.out _ G4.out).mono ?_); rintro e w5 ⟨a5, c5, rfl, _, _, rd5, g5⟩; have G5 := Lib.hid (G4.out.trans g5); have R5 := Lib.hid rd5; have R45 := Lib.hid (R4.out.gr g5); have S21 := Lib.hid (same_list a4 a5 c4 c5 R w5 VR.out (R4.out.gr g5) rd5); clear g5 rd5 D31)
    | (go_at_call 21; (with_reducible refine S21.out.mono ?_); rintro e w6 ⟨rfl, g6⟩; have G6 := Lib.hid (G5.out.trans g6); have R6 := Lib.hid (R45.out.gr g6); clear g6 S21)
    | (go_at_call 30; (with_reducible refine (E30.out _ G6.out).mono ?_); rintro e w7 ⟨a7, c7, rfl, _, _, rd7, g7⟩; have G7 := Lib.hid (G6.out.trans g7); have R67 := Lib.hid (R6.out.gr g7); have S22 := Lib.hid (same_list a7 a c7 c L w7 VL.out rd7 (HW.out.gr (G6.out.trans g7))); clear g7 rd7 E30)
    | (go_at_call 21; (with_reducible refine S22.out.mono ?_); rintro e w8 ⟨rfl, g8⟩; have G8 := Lib.hid (G7.out.trans g8); have R8 := Lib.hid (R67.out.gr g8); clear g8 S22)
    | (go_at_call 28; (with_reducible refine (fm_list VR.out a4 c4 s HK.out _ (HP.out.gr G8.out) R8.out).mono ?_); rintro e w9 ⟨rfl, g9⟩; have G9 := Lib.hid (G8.out.trans g9); clear g9)
    | (go_at_call 10; refine (Awake_any _).mono ?_; rintro e wa ⟨rfl, ga⟩; have GA := Lib.hid (G9.out.trans ga); clear ga))
  go_ret
  exact ⟨rfl, GA.out⟩

set_option maxHeartbeats 8000000 in
set_option maxRecDepth 100000 in
theorem walk_t3 (a : Option Addr) (c : Nat) (L R : SL) (s T : ByteArray) (w : World)
    (D9 : Hid (Calls Tryd.prog 9 #[.slice a L.length c] w (RetB false w)))
    (D28 : Hid (∀ wx, Gr w wx → Calls Tryd.prog 28 #[.slice a L.length c] wx (RetTE T 0 wx)))
    (D29 : Hid (∀ wx, Gr w wx → Calls Tryd.prog 29 #[.slice a L.length c] wx (RetTE T 0 wx)))
    (D30 : Hid (∀ wx, Gr w wx → Calls Tryd.prog 30 #[.string s] wx (RetSE R 3 wx)))
    (D31 : Hid (∀ wx, Gr w wx → Calls Tryd.prog 31 #[.string s] wx (RetSE R 3 wx)))
    (VR : Hid (vL R = true))
    (HW : Hid (RdS w a L.length (sx L) (sy L)))
    (i1 : ¬ ((s.size : Int) > 1000))
    (VL : Hid (vL L = true))
    (E30 : Hid (∀ wx, Gr w wx → Calls Tryd.prog 30 #[.string T] wx (RetSE L 0 wx))) :
    Calls Tryd.prog 8 #[.slice a L.length c, .string s] w (RetB true w) := by
  have b1 : ∀ b : ByteArray, (b.toList == b.toList) = true := fun b => by simp
  have b2 := b1 s
  have b3 := b1 T
  clear b1
  go_enter Tryd.func8, Tryd.ntmps8
  go_wp2_with (first
    | (go_at_call 9; (with_reducible refine D9.out.mono ?_); rintro e w1 ⟨rfl, g1⟩; have G1 := Lib.hid g1; clear g1 D9)
    | (go_at_call 28; (with_reducible refine (D28.out _ G1.out).mono ?_); rintro e w2 ⟨rfl, g2⟩; have G2 := Lib.hid (G1.out.trans g2); clear g2 D28)
    | (go_at_call 29; (with_reducible refine (D29.out _ G2.out).mono ?_); rintro e w3 ⟨rfl, g3⟩; have G3 := Lib.hid (G2.out.trans g3); clear g3 D29)
    | (go_at_call 30; (with_reducible refine (D30.out _ G3.out).mono ?_); rintro e w4 ⟨a4, c4, rfl, _, _, rd4, g4⟩; have G4 := Lib.hid (G3.out.trans g4); have R4 := Lib.hid rd4; clear g4 rd4 D30)
    | (go_at_call 31; (with_reducible refine (D31.out _ G4.out).mono ?_); rintro e w5 ⟨a5, c5, rfl, _, _, rd5, g5⟩; have G5 := Lib.hid (G4.out.trans g5); have R5 := Lib.hid rd5; have R45 := Lib.hid (R4.out.gr g5); have S21 := Lib.hid (same_list a4 a5 c4 c5 R w5 VR.out (R4.out.gr g5) rd5); clear g5 rd5 D31)
    | (go_at_call 21; (with_reducible refine S21.out.mono ?_); rintro e w6 ⟨rfl, g6⟩; have G6 := Lib.hid (G5.out.trans g6); have R6 := Lib.hid (R45.out.gr g6); clear g6 S21)
    | (go_at_call 30; (with_reducible refine (E30.out _ G6.out).mono ?_); rintro e w7 ⟨a7, c7, rfl, _, _, rd7, g7⟩; have G7 := Lib.hid (G6.out.trans g7); have R67 := Lib.hid (R6.out.gr g7); have S22 := Lib.hid (same_list a7 a c7 c L w7 VL.out rd7 (HW.out.gr (G6.out.trans g7))); clear g7 rd7 E30)
    | (go_at_call 21; (with_reducible refine S22.out.mono ?_); rintro e w8 ⟨rfl, g8⟩; have G8 := Lib.hid (G7.out.trans g8); have R8 := Lib.hid (R67.out.gr g8); clear g8 S22)
    | (go_at_call 10; refine (Awake_any _).mono ?_; rintro e wa ⟨rfl, ga⟩; have GA := Lib.hid (G8.out.trans ga); clear ga))
  go_ret
  exact ⟨rfl, GA.out⟩

set_option maxHeartbeats 8000000 in
set_option maxRecDepth 100000 in
theorem walk_f0 (a : Option Addr) (c : Nat) (L R : SL) (s : ByteArray) (w : World)
    (D9 : Hid (Calls Tryd.prog 9 #[.slice a L.length c] w (RetB false w)))
    (D28 : Hid (∀ wx, Gr w wx → Calls Tryd.prog 28 #[.slice a L.length c] wx (RetTE (⟨#[]⟩ : ByteArray) 92 wx)))
    (D29 : Hid (∀ wx, Gr w wx → Calls Tryd.prog 29 #[.slice a L.length c] wx (RetTE (⟨#[]⟩ : ByteArray) 92 wx)))
    (D30 : Hid (∀ wx, Gr w wx → Calls Tryd.prog 30 #[.string s] wx (RetSE R 0 wx)))
    (D31 : Hid (∀ wx, Gr w wx → Calls Tryd.prog 31 #[.string s] wx (RetSE R 0 wx)))
    (VR : Hid (vL R = true))
    (_HW : Hid (RdS w a L.length (sx L) (sy L)))
    (i1 : ¬ ((s.size : Int) > 1000))
    (HP : Hid (Pow10 w))
    (HK : Hid (txL R = s.data.toList)) :
    Calls Tryd.prog 8 #[.slice a L.length c, .string s] w (RetB true w) := by
  have b1 : ∀ b : ByteArray, (b.toList == b.toList) = true := fun b => by simp
  have b2 := b1 s
  have b3 := b1 (⟨#[]⟩ : ByteArray)
  clear b1
  go_enter Tryd.func8, Tryd.ntmps8
  go_wp2_with (first
    | (go_at_call 9; (with_reducible refine D9.out.mono ?_); rintro e w1 ⟨rfl, g1⟩; have G1 := Lib.hid g1; clear g1 D9)
    | (go_at_call 28; (with_reducible refine (D28.out _ G1.out).mono ?_); rintro e w2 ⟨rfl, g2⟩; have G2 := Lib.hid (G1.out.trans g2); clear g2 D28)
    | (go_at_call 29; (with_reducible refine (D29.out _ G2.out).mono ?_); rintro e w3 ⟨rfl, g3⟩; have G3 := Lib.hid (G2.out.trans g3); clear g3 D29)
    | (go_at_call 30; (with_reducible refine (D30.out _ G3.out).mono ?_); rintro e w4 ⟨a4, c4, rfl, _, _, rd4, g4⟩; have G4 := Lib.hid (G3.out.trans g4); have R4 := Lib.hid rd4; clear g4 rd4 D30)
    | (go_at_call 31; (with_reducible refine (D31.out _ G4.out).mono ?_); rintro e w5 ⟨a5, c5, rfl, _, _, rd5, g5⟩; have G5 := Lib.hid (G4.out.trans g5); have R5 := Lib.hid rd5; have R45 := Lib.hid (R4.out.gr g5); have S21 := Lib.hid (same_list a4 a5 c4 c5 R w5 VR.out (R4.out.gr g5) rd5); clear g5 rd5 D31)
    | (go_at_call 21; (with_reducible refine S21.out.mono ?_); rintro e w6 ⟨rfl, g6⟩; have G6 := Lib.hid (G5.out.trans g6); have R6 := Lib.hid (R45.out.gr g6); clear g6 S21)
    | (go_at_call 28; (with_reducible refine (fm_list VR.out a4 c4 s HK.out _ (HP.out.gr G6.out) R6.out).mono ?_); rintro e w9 ⟨rfl, g9⟩; have G9 := Lib.hid (G6.out.trans g9); clear g9)
    | (go_at_call 10; refine (Awake_any _).mono ?_; rintro e wa ⟨rfl, ga⟩; have GA := Lib.hid (G9.out.trans ga); clear ga))
  go_ret
  exact ⟨rfl, GA.out⟩

set_option maxHeartbeats 8000000 in
set_option maxRecDepth 100000 in
theorem walk_f3 (a : Option Addr) (c : Nat) (L R : SL) (s : ByteArray) (w : World)
    (D9 : Hid (Calls Tryd.prog 9 #[.slice a L.length c] w (RetB false w)))
    (D28 : Hid (∀ wx, Gr w wx → Calls Tryd.prog 28 #[.slice a L.length c] wx (RetTE (⟨#[]⟩ : ByteArray) 92 wx)))
    (D29 : Hid (∀ wx, Gr w wx → Calls Tryd.prog 29 #[.slice a L.length c] wx (RetTE (⟨#[]⟩ : ByteArray) 92 wx)))
    (D30 : Hid (∀ wx, Gr w wx → Calls Tryd.prog 30 #[.string s] wx (RetSE R 3 wx)))
    (D31 : Hid (∀ wx, Gr w wx → Calls Tryd.prog 31 #[.string s] wx (RetSE R 3 wx)))
    (VR : Hid (vL R = true))
    (_HW : Hid (RdS w a L.length (sx L) (sy L)))
    (i1 : ¬ ((s.size : Int) > 1000)) :
    Calls Tryd.prog 8 #[.slice a L.length c, .string s] w (RetB true w) := by
  have b1 : ∀ b : ByteArray, (b.toList == b.toList) = true := fun b => by simp
  have b2 := b1 s
  have b3 := b1 (⟨#[]⟩ : ByteArray)
  clear b1
  go_enter Tryd.func8, Tryd.ntmps8
  go_wp2_with (first
    | (go_at_call 9; (with_reducible refine D9.out.mono ?_); rintro e w1 ⟨rfl, g1⟩; have G1 := Lib.hid g1; clear g1 D9)
    | (go_at_call 28; (with_reducible refine (D28.out _ G1.out).mono ?_); rintro e w2 ⟨rfl, g2⟩; have G2 := Lib.hid (G1.out.trans g2); clear g2 D28)
    | (go_at_call 29; (with_reducible refine (D29.out _ G2.out).mono ?_); rintro e w3 ⟨rfl, g3⟩; have G3 := Lib.hid (G2.out.trans g3); clear g3 D29)
    | (go_at_call 30; (with_reducible refine (D30.out _ G3.out).mono ?_); rintro e w4 ⟨a4, c4, rfl, _, _, rd4, g4⟩; have G4 := Lib.hid (G3.out.trans g4); have R4 := Lib.hid rd4; clear g4 rd4 D30)
    | (go_at_call 31; (with_reducible refine (D31.out _ G4.out).mono ?_); rintro e w5 ⟨a5, c5, rfl, _, _, rd5, g5⟩; have G5 := Lib.hid (G4.out.trans g5); have R5 := Lib.hid rd5; have R45 := Lib.hid (R4.out.gr g5); have S21 := Lib.hid (same_list a4 a5 c4 c5 R w5 VR.out (R4.out.gr g5) rd5); clear g5 rd5 D31)
    | (go_at_call 21; (with_reducible refine S21.out.mono ?_); rintro e w6 ⟨rfl, g6⟩; have G6 := Lib.hid (G5.out.trans g6); have R6 := Lib.hid (R45.out.gr g6); clear g6 S21)
    | (go_at_call 10; refine (Awake_any _).mono ?_; rintro e wa ⟨rfl, ga⟩; have GA := Lib.hid (G6.out.trans ga); clear ga))
  go_ret
  exact ⟨rfl, GA.out⟩

set_option maxHeartbeats 8000000 in
set_option maxRecDepth 100000 in
theorem walk (a : Option Addr) (n c : Nat) (f : Nat → ByteArray) (g : Nat → Int) (s : ByteArray) (w : World)
    (hn : n ≤ 9223372036854775807) (hf : ∀ i, i < n → (f i).size ≤ 9223372036854775807 ∧ (Lit.int .i64 (g i)).wf = true) (hr : RdS w a n f g)
    (hs : s.size ≤ maxLen) (hT : Pow10 w) (hE : Errs w) :
    Calls Tryd.prog 8 #[.slice a n c, .string s] w (RetB true w) := by
  have hs2 : s.size ≤ 9223372036854775807 := by unfold maxLen at hs; omega
  have D9 := Lib.hid (Long_any a n c f g w hn hr)
  cases h9 : lgS f n with
  | true =>
    rw [h9] at D9
    clear hs hs2 hT hE hf hr h9
    go_enter Tryd.func8, Tryd.ntmps8
    go_wp2_with (first
      | (go_at_call 9; (with_reducible refine D9.out.mono ?_); rintro e w1 ⟨rfl, g1⟩; have G1 := Lib.hid g1; clear g1)
      | (go_at_call 10; refine (Awake_any _).mono ?_; rintro e w2 ⟨rfl, g2⟩; have G2 := Lib.hid (G1.out.trans g2); clear g2))
    go_ret
    exact ⟨rfl, G2.out⟩
  | false =>
    rw [h9] at D9
    by_cases h1 : s.size > 1000
    · have i1 : (s.size : Int) > 1000 := by omega
      clear hs hs2 hT hE hf hr h9 h1
      go_enter Tryd.func8, Tryd.ntmps8
      go_wp2_with (first
        | (go_at_call 9; (with_reducible refine D9.out.mono ?_); rintro e w1 ⟨rfl, g1⟩; have G1 := Lib.hid g1; clear g1)
        | (go_at_call 10; refine (Awake_any _).mono ?_; rintro e w2 ⟨rfl, g2⟩; have G2 := Lib.hid (G1.out.trans g2); clear g2))
      go_ret
      exact ⟨rfl, G2.out⟩
    · have i1 : ¬ ((s.size : Int) > 1000) := by omega
      have F28 := fun wx (k : Gr w wx) => Format_any a n c f g wx (hT.gr k) hn (fun i hi => (hf i hi).1) (hr.gr k)
      have F29 := fun wx (k : Gr w wx) => refFormat_any a n c f g wx hn (fun i hi => (hf i hi).1) (hr.gr k)
      have hw : RdS w a (ofS f g n).length (sx (ofS f g n)) (sy (ofS f g n)) := by
        rw [ofS_length]
        exact hr.congr fun i hi => ⟨(sx_ofS hi).1.symm, (sx_ofS hi).2.symm⟩
      have hl : n = (ofS f g n).length := (ofS_length f g n).symm
      rw [vL_of] at F28 F29
      generalize ofS f g n = L at *
      subst hl
      have P30 := fun wx (k : Gr w wx) => Parse_any s wx hs2 (hT.gr k) (hE.gr k)
      have P31 := fun wx (_ : Gr w wx) => refParse_any s wx (by omega)
      rw [pr_same] at P31
      have vr := pr_valid s.data.toList
      have hc := pr_code s.data.toList
      have ht := fun h => (pr_text (K := s.data.toList) h).1
      generalize (prO s.data.toList).1 = R at *
      generalize (prO s.data.toList).2 = E at *
      cases hv : vL L with
      | true =>
        rw [hv] at F28 F29
        have e30 := fun wx (k : Gr w wx) => Parse_any (bA (txL L)) wx (by rw [bA_size]; have := (Wds.of hv).size; omega) (hT.gr k) (hE.gr k)
        rw [bA_list, pr_back hv] at e30
        rcases hc with rfl | ⟨rfl, _⟩
        · exact walk_t0 a c L R s (bA (txL L)) w D9 (Lib.hid F28) (Lib.hid F29) (Lib.hid P30) (Lib.hid P31) (Lib.hid vr) (Lib.hid hw) i1 (Lib.hid hv) (Lib.hid e30) (Lib.hid hT) (Lib.hid (ht rfl))
        · exact walk_t3 a c L R s (bA (txL L)) w D9 (Lib.hid F28) (Lib.hid F29) (Lib.hid P30) (Lib.hid P31) (Lib.hid vr) (Lib.hid hw) i1 (Lib.hid hv) (Lib.hid e30)
      | false =>
        rw [hv] at F28 F29
        rcases hc with rfl | ⟨rfl, _⟩
        · exact walk_f0 a c L R s w D9 (Lib.hid F28) (Lib.hid F29) (Lib.hid P30) (Lib.hid P31) (Lib.hid vr) (Lib.hid hw) i1 (Lib.hid hT) (Lib.hid (ht rfl))
        · exact walk_f3 a c L R s w D9 (Lib.hid F28) (Lib.hid F29) (Lib.hid P30) (Lib.hid P31) (Lib.hid vr) (Lib.hid hw) i1
end Go.Proofs.YtehdemcfeoiecaaDoor.provTexts

