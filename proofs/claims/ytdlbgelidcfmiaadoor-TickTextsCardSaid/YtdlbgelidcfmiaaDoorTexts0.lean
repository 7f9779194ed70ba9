/- TickTexts: its walk. -/
import Derived.Test.YtdlbgelidcfmiaaDoorFrt
import Derived.Test.YtdlbgelidcfmiaaDoorTI
namespace Go.Proofs.YtdlbgelidcfmiaaDoor.tickTexts
open Go.ChangeShapes Go.WideShapes Go.ChangeAt Go.RowKit Go.Firn

theorem fm_list {c : CL} (h : vMk c = true) (a : Option Addr) (cp : Nat) (s : ByteArray) (hs : txC c = s.data.toList) (w : World) (hT : Pow10 w) (hr : RdM w a c.length (px c) (py c)) :
    Calls Tryd.prog 6 #[.slice a c.length cp] w (RetTE s 0 w) := by
  have e := Format_any a cp c w hT (by have := (Mks.of h).few; omega) hr
  rw [h] at e
  have e2 : fmT true c = s := by unfold fmT; rw [if_pos rfl, hs]; rfl
  rw [e2] at e
  exact e
theorem same_any (a a' : Option Addr) (cp cp' : Nat) (c : CL) (w : World) (hn : c.length ≤ 9223372036854775807) (hr : RdM w a c.length (px c) (py c)) (hr' : RdM w a' c.length (px c) (py c)) :
    Calls Tryd.prog 10 #[.slice a c.length cp, .slice a' c.length cp'] w (RetB true w) := by
  have h := Equal_q a a' c.length cp c.length cp' (px c) (py c) (px c) (py c) w hn hn hr hr'
  rw [eqM_true.2 ⟨rfl, fun _ _ => ⟨rfl, rfl⟩⟩] at h
  refine Calls.mono h ?_
  rintro e w' ⟨rfl, m, rfl⟩
  exact ⟨rfl, (Gr.refl w).drewN m⟩
theorem pr_len (K : Key) : (prO K).1.length ≤ 9223372036854775807 := by
  rcases prO_is K with ⟨h, _⟩ | h
  · have := (Mks.of h).few
    omega
  · rw [h]; simp


set_option maxHeartbeats 8000000 in
set_option maxRecDepth 100000 in
theorem walk_t0 (a : Option Addr) (c : Nat) (L R : CL) (s T : ByteArray) (w : World)
    (D9 : Hid (Calls Tryd.prog 4 #[.slice a L.length c] w (RetB false w)))
    (D28 : Hid (∀ wx, Gr w wx → Calls Tryd.prog 6 #[.slice a L.length c] wx (RetTE T 0 wx)))
    (D29 : Hid (∀ wx, Gr w wx → Calls Tryd.prog 7 #[.slice a L.length c] wx (RetTE T 0 wx)))
    (D30 : Hid (∀ wx, Gr w wx → Calls Tryd.prog 8 #[.string s] wx (RetMs R 0 wx)))
    (D31 : Hid (∀ wx, Gr w wx → Calls Tryd.prog 9 #[.string s] wx (RetMs R 0 wx)))
    (VR : Hid (R.length ≤ 9223372036854775807))
    (HW : Hid (RdM w a L.length (px L) (py L)))
    (i1 : ¬ ((s.size : Int) > 1000))
    (VL : Hid (L.length ≤ 9223372036854775807))
    (E30 : Hid (∀ wx, Gr w wx → Calls Tryd.prog 8 #[.string T] wx (RetMs L 0 wx)))
    (HP : Hid (Pow10 w))
    (VK : Hid (vMk R = true))
    (HK : Hid (txC R = s.data.toList)) :
    Calls Tryd.prog 3 #[.slice a L.length c, .string s] w (RetB true w) := by
  have b1 : ∀ b : ByteArray, (b.toList == b.toList) = true := fun b => by simp
  have b2 := b1 s
  have b3 := b1 T
  clear b1
  go_enter Tryd.func3, Tryd.ntmps3
  go_wp2_with (first
    | (go_at_call 4; (with_reducible refine D9.out.mono ?_); rintro e w1 ⟨rfl, g1⟩; have G1 := Lib.hid g1; clear g1 D9)
    | (go_at_call 6; (with_reducible refine (D28.out _ G1.out).mono ?_); rintro e w2 ⟨rfl, g2⟩; have G2 := Lib.hid (G1.out.trans g2); clear g2 D28)
    | (go_at_call 7; (with_reducible refine (D29.out _ G2.out).mono ?_); rintro e w3 ⟨rfl, g3⟩; have G3 := Lib.hid (G2.out.trans g3); clear g3 D29)
    | (go_at_call 8; (with_reducible refine (D30.out _ G3.out).mono ?_); rintro e w4 ⟨a4, c4, rfl, _, _, rd4, g4⟩; have G4 := Lib.hid (G3.out.trans g4); have R4 := Lib.hid rd4; clear g4 rd4 D30)
    | (go_at_call 9; (with_reducible refine (D31.out _ G4.out).mono ?_); rintro e w5 ⟨a5, c5, rfl, _, _, rd5, g5⟩; have G5 := Lib.hid (G4.out.trans g5); have R5 := Lib.hid rd5; have R45 := Lib.hid (R4.out.gr g5); have S21 := Lib.hid (same_any a4 a5 c4 c5 R w5 VR.out (R4.out.gr g5) rd5); clear g5 rd5 D31)
    | (go_at_call 10; (with_reducible refine S21.out.mono ?_); rintro e w6 ⟨rfl, g6⟩; have G6 := Lib.hid (G5.out.trans g6); have R6 := Lib.hid (R45.out.gr g6); clear g6 S21)
    | (go_at_call 8; (with_reducible refine (E30.out _ G6.out).mono ?_); rintro e w7 ⟨a7, c7, rfl, _, _, rd7, g7⟩; have G7 := Lib.hid (G6.out.trans g7); have R67 := Lib.hid (R6.out.gr g7); have S22 := Lib.hid (same_any a7 a c7 c L w7 VL.out rd7 (HW.out.gr (G6.out.trans g7))); clear g7 rd7 E30)
    | (go_at_call 10; (with_reducible refine S22.out.mono ?_); rintro e w8 ⟨rfl, g8⟩; have G8 := Lib.hid (G7.out.trans g8); have R8 := Lib.hid (R67.out.gr g8); clear g8 S22)
    | (go_at_call 6; (with_reducible refine (fm_list VK.out a4 c4 s HK.out _ (HP.out.gr G8.out) R8.out).mono ?_); rintro e w9 ⟨rfl, g9⟩; have G9 := Lib.hid (G8.out.trans g9); clear g9)
    | (go_at_call 5; refine (Awake_any _).mono ?_; rintro e wa ⟨rfl, ga⟩; have GA := Lib.hid (G9.out.trans ga); clear ga))
  go_ret
  exact ⟨rfl, GA.out⟩

set_option maxHeartbeats 8000000 in
set_option maxRecDepth 100000 in
theorem walk_t3 (a : Option Addr) (c : Nat) (L R : CL) (s T : ByteArray) (w : World)
    (D9 : Hid (Calls Tryd.prog 4 #[.slice a L.length c] w (RetB false w)))
    (D28 : Hid (∀ wx, Gr w wx → Calls Tryd.prog 6 #[.slice a L.length c] wx (RetTE T 0 wx)))
    (D29 : Hid (∀ wx, Gr w wx → Calls Tryd.prog 7 #[.slice a L.length c] wx (RetTE T 0 wx)))
    (D30 : Hid (∀ wx, Gr w wx → Calls Tryd.prog 8 #[.string s] wx (RetMs R 3 wx)))
    (D31 : Hid (∀ wx, Gr w wx → Calls Tryd.prog 9 #[.string s] wx (RetMs R 3 wx)))
    (VR : Hid (R.length ≤ 9223372036854775807))
    (HW : Hid (RdM w a L.length (px L) (py L)))
    (i1 : ¬ ((s.size : Int) > 1000))
    (VL : Hid (L.length ≤ 9223372036854775807))
    (E30 : Hid (∀ wx, Gr w wx → Calls Tryd.prog 8 #[.string T] wx (RetMs L 0 wx))) :
    Calls Tryd.prog 3 #[.slice a L.length c, .string s] w (RetB true w) := by
  have b1 : ∀ b : ByteArray, (b.toList == b.toList) = true := fun b => by simp
  have b2 := b1 s
  have b3 := b1 T
  clear b1
  go_enter Tryd.func3, Tryd.ntmps3
  go_wp2_with (first
    | (go_at_call 4; (with_reducible refine D9.out.mono ?_); rintro e w1 ⟨rfl, g1⟩; have G1 := Lib.hid g1; clear g1 D9)
    | (go_at_call 6; (with_reducible refine (D28.out _ G1.out).mono ?_); rintro e w2 ⟨rfl, g2⟩; have G2 := Lib.hid (G1.out.trans g2); clear g2 D28)
    | (go_at_call 7; (with_reducible refine (D29.out _ G2.out).mono ?_); rintro e w3 ⟨rfl, g3⟩; have G3 := Lib.hid (G2.out.trans g3); clear g3 D29)
    | (go_at_call 8; (with_reducible refine (D30.out _ G3.out).mono ?_); rintro e w4 ⟨a4, c4, rfl, _, _, rd4, g4⟩; have G4 := Lib.hid (G3.out.trans g4); have R4 := Lib.hid rd4; clear g4 rd4 D30)
    | (go_at_call 9; (with_reducible refine (D31.out _ G4.out).mono ?_); rintro e w5 ⟨a5, c5, rfl, _, _, rd5, g5⟩; have G5 := Lib.hid (G4.out.trans g5); have R5 := Lib.hid rd5; have R45 := Lib.hid (R4.out.gr g5); have S21 := Lib.hid (same_any a4 a5 c4 c5 R w5 VR.out (R4.out.gr g5) rd5); clear g5 rd5 D31)
    | (go_at_call 10; (with_reducible refine S21.out.mono ?_); rintro e w6 ⟨rfl, g6⟩; have G6 := Lib.hid (G5.out.trans g6); have R6 := Lib.hid (R45.out.gr g6); clear g6 S21)
    | (go_at_call 8; (with_reducible refine (E30.out _ G6.out).mono ?_); rintro e w7 ⟨a7, c7, rfl, _, _, rd7, g7⟩; have G7 := Lib.hid (G6.out.trans g7); have R67 := Lib.hid (R6.out.gr g7); have S22 := Lib.hid (same_any a7 a c7 c L w7 VL.out rd7 (HW.out.gr (G6.out.trans g7))); clear g7 rd7 E30)
    | (go_at_call 10; (with_reducible refine S22.out.mono ?_); rintro e w8 ⟨rfl, g8⟩; have G8 := Lib.hid (G7.out.trans g8); have R8 := Lib.hid (R67.out.gr g8); clear g8 S22)
    | (go_at_call 5; refine (Awake_any _).mono ?_; rintro e wa ⟨rfl, ga⟩; have GA := Lib.hid (G8.out.trans ga); clear ga))
  go_ret
  exact ⟨rfl, GA.out⟩

set_option maxHeartbeats 8000000 in
set_option maxRecDepth 100000 in
theorem walk_f0 (a : Option Addr) (c : Nat) (L R : CL) (s : ByteArray) (w : World)
    (D9 : Hid (Calls Tryd.prog 4 #[.slice a L.length c] w (RetB false w)))
    (D28 : Hid (∀ wx, Gr w wx → Calls Tryd.prog 6 #[.slice a L.length c] wx (RetTE (⟨#[]⟩ : ByteArray) 11 wx)))
    (D29 : Hid (∀ wx, Gr w wx → Calls Tryd.prog 7 #[.slice a L.length c] wx (RetTE (⟨#[]⟩ : ByteArray) 11 wx)))
    (D30 : Hid (∀ wx, Gr w wx → Calls Tryd.prog 8 #[.string s] wx (RetMs R 0 wx)))
    (D31 : Hid (∀ wx, Gr w wx → Calls Tryd.prog 9 #[.string s] wx (RetMs R 0 wx)))
    (VR : Hid (R.length ≤ 9223372036854775807))
    (_HW : Hid (RdM w a L.length (px L) (py L)))
    (i1 : ¬ ((s.size : Int) > 1000))
    (HP : Hid (Pow10 w))
    (VK : Hid (vMk R = true))
    (HK : Hid (txC R = s.data.toList)) :
    Calls Tryd.prog 3 #[.slice a L.length c, .string s] w (RetB true w) := by
  have b1 : ∀ b : ByteArray, (b.toList == b.toList) = true := fun b => by simp
  have b2 := b1 s
  have b3 := b1 (⟨#[]⟩ : ByteArray)
  clear b1
  go_enter Tryd.func3, Tryd.ntmps3
  go_wp2_with (first
    | (go_at_call 4; (with_reducible refine D9.out.mono ?_); rintro e w1 ⟨rfl, g1⟩; have G1 := Lib.hid g1; clear g1 D9)
    | (go_at_call 6; (with_reducible refine (D28.out _ G1.out).mono ?_); rintro e w2 ⟨rfl, g2⟩; have G2 := Lib.hid (G1.out.trans g2); clear g2 D28)
    | (go_at_call 7; (with_reducible refine (D29.out _ G2.out).mono ?_); rintro e w3 ⟨rfl, g3⟩; have G3 := Lib.hid (G2.out.trans g3); clear g3 D29)
    | (go_at_call 8; (with_reducible refine (D30.out _ G3.out).mono ?_); rintro e w4 ⟨a4, c4, rfl, _, _, rd4, g4⟩; have G4 := Lib.hid (G3.out.trans g4); have R4 := Lib.hid rd4; clear g4 rd4 D30)
    | (go_at_call 9; (with_reducible refine (D31.out _ G4.out).mono ?_); rintro e w5 ⟨a5, c5, rfl, _, _, rd5, g5⟩; have G5 := Lib.hid (G4.out.trans g5); have R5 := Lib.hid rd5; have R45 := Lib.hid (R4.out.gr g5); have S21 := Lib.hid (same_any a4 a5 c4 c5 R w5 VR.out (R4.out.gr g5) rd5); clear g5 rd5 D31)
    | (go_at_call 10; (with_reducible refine S21.out.mono ?_); rintro e w6 ⟨rfl, g6⟩; have G6 := Lib.hid (G5.out.trans g6); have R6 := Lib.hid (R45.out.gr g6); clear g6 S21)
    | (go_at_call 6; (with_reducible refine (fm_list VK.out a4 c4 s HK.out _ (HP.out.gr G6.out) R6.out).mono ?_); rintro e w9 ⟨rfl, g9⟩; have G9 := Lib.hid (G6.out.trans g9); clear g9)
    | (go_at_call 5; refine (Awake_any _).mono ?_; rintro e wa ⟨rfl, ga⟩; have GA := Lib.hid (G9.out.trans ga); clear ga))
  go_ret
  exact ⟨rfl, GA.out⟩

set_option maxHeartbeats 8000000 in
set_option maxRecDepth 100000 in
theorem walk_f3 (a : Option Addr) (c : Nat) (L R : CL) (s : ByteArray) (w : World)
    (D9 : Hid (Calls Tryd.prog 4 #[.slice a L.length c] w (RetB false w)))
    (D28 : Hid (∀ wx, Gr w wx → Calls Tryd.prog 6 #[.slice a L.length c] wx (RetTE (⟨#[]⟩ : ByteArray) 11 wx)))
    (D29 : Hid (∀ wx, Gr w wx → Calls Tryd.prog 7 #[.slice a L.length c] wx (RetTE (⟨#[]⟩ : ByteArray) 11 wx)))
    (D30 : Hid (∀ wx, Gr w wx → Calls Tryd.prog 8 #[.string s] wx (RetMs R 3 wx)))
    (D31 : Hid (∀ wx, Gr w wx → Calls Tryd.prog 9 #[.string s] wx (RetMs R 3 wx)))
    (VR : Hid (R.length ≤ 9223372036854775807))
    (_HW : Hid (RdM w a L.length (px L) (py L)))
    (i1 : ¬ ((s.size : Int) > 1000)) :
    Calls Tryd.prog 3 #[.slice a L.length c, .string s] w (RetB true w) := by
  have b1 : ∀ b : ByteArray, (b.toList == b.toList) = true := fun b => by simp
  have b2 := b1 s
  have b3 := b1 (⟨#[]⟩ : ByteArray)
  clear b1
  go_enter Tryd.func3, Tryd.ntmps3
  go_wp2_with (first
    | (go_at_call 4; (with_reducible refine D9.out.mono ?_); rintro e w1 ⟨rfl, g1⟩; have G1 := Lib.hid g1; clear g1 D9)
    | (go_at_call 6; (with_reducible refine (D28.out _ G1.out).mono ?_); rintro e w2 ⟨rfl, g2⟩; have G2 := Lib.hid (G1.out.trans g2); clear g2 D28)
    | (go_at_call 7; (with_reducible refine (D29.out _ G2.out).mono ?_); rintro e w3 ⟨rfl, g3⟩; have G3 := Lib.hid (G2.out.trans g3); clear g3 D29)
    | (go_at_call 8; (with_reducible refine (D30.out _ G3.out).mono ?_); rintro e w4 ⟨a4, c4, rfl, _, _, rd4, g4⟩; have G4 := Lib.hid (G3.out.trans g4); have R4 := Lib.hid rd4; clear g4 rd4 D30)
    | (go_at_call 9; (with_reducible refine (D31.out _ G4.out).mono ?_); rintro e w5 ⟨a5, c5, rfl, _, _, rd5, g5⟩; have G5 := Lib.hid (G4.out.trans g5); have R5 := Lib.hid rd5; have R45 := Lib.hid (R4.out.gr g5); have S21 := Lib.hid (same_any a4 a5 c4 c5 R w5 VR.out (R4.out.gr g5) rd5); clear g5 rd5 D31)
    | (go_at_call 10; (with_reducible refine S21.out.mono ?_); rintro e w6 ⟨rfl, g6⟩; have G6 := Lib.hid (G5.out.trans g6); have R6 := Lib.hid (R45.out.gr g6); clear g6 S21)
    | (go_at_call 5; refine (Awake_any _).mono ?_; rintro e wa ⟨rfl, ga⟩; have GA := Lib.hid (G6.out.trans ga); clear ga))
  go_ret
  exact ⟨rfl, GA.out⟩

set_option maxHeartbeats 8000000 in
set_option maxRecDepth 100000 in
theorem walk (a : Option Addr) (n c : Nat) (f g : Nat → Int) (s : ByteArray) (w : World)
    (hn : n ≤ 9223372036854775807) (_hf : ∀ i, i < n → (Lit.int .i64 (f i)).wf = true ∧ (Lit.int .i64 (g i)).wf = true) (hr : RdM w a n f g)
    (hs : s.size ≤ maxLen) (hT : Pow10 w) (hE : Errs w) :
    Calls Tryd.prog 3 #[.slice a n c, .string s] w (RetB true w) := by
  have hs2 : s.size ≤ 9223372036854775807 := by unfold maxLen at hs; omega
  have D9 := Lib.hid (show Calls Tryd.prog 4 #[.slice a n c] w (RetB (decide (100 < n)) w) from Calls.mono (Long_any a n c w hn) (by rintro e w' ⟨rfl, rfl⟩; exact ⟨rfl, Gr.refl _⟩))
  by_cases h9 : 100 < n
  · rw [decide_eq_true h9] at D9
    clear hs hs2 hT hE hr h9
    go_enter Tryd.func3, Tryd.ntmps3
    go_wp2_with (first
      | (go_at_call 4; (with_reducible refine D9.out.mono ?_); rintro e w1 ⟨rfl, g1⟩; have G1 := Lib.hid g1; clear g1)
      | (go_at_call 5; refine (Awake_any _).mono ?_; rintro e w2 ⟨rfl, g2⟩; have G2 := Lib.hid (G1.out.trans g2); clear g2))
    go_ret
    exact ⟨rfl, G2.out⟩
  · rw [decide_eq_false h9] at D9
    by_cases h1 : s.size > 1000
    · have i1 : (s.size : Int) > 1000 := by omega
      clear hs hs2 hT hE hr h9 h1
      go_enter Tryd.func3, Tryd.ntmps3
      go_wp2_with (first
        | (go_at_call 4; (with_reducible refine D9.out.mono ?_); rintro e w1 ⟨rfl, g1⟩; have G1 := Lib.hid g1; clear g1)
        | (go_at_call 5; refine (Awake_any _).mono ?_; rintro e w2 ⟨rfl, g2⟩; have G2 := Lib.hid (G1.out.trans g2); clear g2))
      go_ret
      exact ⟨rfl, G2.out⟩
    · have i1 : ¬ ((s.size : Int) > 1000) := by omega
      have hw : RdM w a (lsC f g n).length (px (lsC f g n)) (py (lsC f g n)) := by
        rw [lsC_len]
        exact hr.congr fun i hi => lsC_at hi
      have hl : n = (lsC f g n).length := (lsC_len f g n).symm
      generalize lsC f g n = L at *
      subst hl
      have F28 := fun wx (k : Gr w wx) => Format_any a c L wx (hT.gr k) hn (hw.gr k)
      have F29 := fun wx (k : Gr w wx) => refFormat_any a c L wx hn (hw.gr k)
      have P30 := fun wx (k : Gr w wx) => Parse_any s wx hs2 (hT.gr k) (hE.gr k)
      have P31 := fun wx (_ : Gr w wx) => refParse_any s wx (by omega)
      rw [pr_same] at P31
      have vr := pr_len s.data.toList
      have hc : ((prO s.data.toList).2 = 0 ∧ vMk (prO s.data.toList).1 = true ∧ txC (prO s.data.toList).1 = s.data.toList) ∨ (prO s.data.toList).2 = 3 := by
        rcases prO_is s.data.toList with ⟨h1, h2, h3⟩ | h
        · exact .inl ⟨h3, h1, h2⟩
        · right; rw [h]
      generalize (prO s.data.toList).1 = R at *
      generalize (prO s.data.toList).2 = E at *
      cases hv : vMk L with
      | true =>
        rw [hv] at F28 F29
        have e30 := fun wx (k : Gr w wx) => Parse_any (bA (txC L)) wx (by rw [bA_size]; have := tx_size (Mks.of hv) L.length; rw [List.take_length] at this; omega) (hT.gr k) (hE.gr k)
        rw [bA_list, prO_text hv] at e30
        rcases hc with ⟨rfl, h1, h2⟩ | rfl
        · exact walk_t0 a c L R s (bA (txC L)) w D9 (Lib.hid F28) (Lib.hid F29) (Lib.hid P30) (Lib.hid P31) (Lib.hid vr) (Lib.hid hw) i1 (Lib.hid hn) (Lib.hid e30) (Lib.hid hT) (Lib.hid h1) (Lib.hid h2)
        · exact walk_t3 a c L R s (bA (txC L)) w D9 (Lib.hid F28) (Lib.hid F29) (Lib.hid P30) (Lib.hid P31) (Lib.hid vr) (Lib.hid hw) i1 (Lib.hid hn) (Lib.hid e30)
      | false =>
        rw [hv] at F28 F29
        rcases hc with ⟨rfl, h1, h2⟩ | rfl
        · exact walk_f0 a c L R s w D9 (Lib.hid F28) (Lib.hid F29) (Lib.hid P30) (Lib.hid P31) (Lib.hid vr) (Lib.hid hw) i1 (Lib.hid hT) (Lib.hid h1) (Lib.hid h2)
        · exact walk_f3 a c L R s w D9 (Lib.hid F28) (Lib.hid F29) (Lib.hid P30) (Lib.hid P31) (Lib.hid vr) (Lib.hid hw) i1
end Go.Proofs.YtdlbgelidcfmiaaDoor.tickTexts

