/- Proved: ConeTurns returns true at every input, and its arguments read afterwards as before, tied to the program's text. Conditions: none. -/
import Derived.Test.YtjokheeegcilhaaDoorFra
import Derived.Test.YtjokheeegcilhaaDoorFrb
import Derived.Test.YtjokheeegcilhaaDoorPG
import Derived.Test.YtjokheeegcilhaaDoorWT
import Derived.Test.YtjokheeegcilhaaDoorW37
namespace Go.Proofs.YtjokheeegcilhaaDoor.coneTurns
open Go.ChangeShapes Go.WideShapes Go.ChangeAt Go.RowKit Go.Firn

set_option maxHeartbeats 2000000 in
set_option maxRecDepth 20000 in
theorem alike_any (adr adr' : Option Addr) (n c c' : Nat) (P T P' T' : Nat → Int) (w : World) (A : Alk n P T P' T') (V : VH n P T) (V' : VH n P' T') (hw : WfH n P T) (hw' : WfH n P' T') (hh : RdM w adr n P T) (hh' : RdM w adr' n P' T') (hT : Tab w) :
    Calls Tryd.prog 57 #[.slice adr n c, .slice adr' n c'] w (RetB true w) := by
  have C1 := Lib.hid (fun w1 (k : Gr w w1) => Chain_ok2 adr n c P T w1 V hw (hh.gr k) (hT.gr k))
  have C2 := Lib.hid (fun w1 (k : Gr w w1) => Chain_ok2 adr' n c' P' T' w1 V' hw' (hh'.gr k) (hT.gr k))
  have C3 := Lib.hid (fun w1 (k : Gr w w1) => Layer_ok2 adr n c P T w1 V hw (hh.gr k) (hT.gr k))
  have C4 := Lib.hid (fun w1 (k : Gr w w1) => Layer_ok2 adr' n c' P' T' w1 V' hw' (hh'.gr k) (hT.gr k))
  have C5 := Lib.hid (fun w1 (k : Gr w w1) => Chains_ok adr n c P T w1 V hw (hh.gr k) (hT.gr k))
  have C6 := Lib.hid (fun w1 (k : Gr w w1) => Chains_ok adr' n c' P' T' w1 V' hw' (hh'.gr k) (hT.gr k))
  rw [A.top] at C2
  rw [A.lay] at C4
  rw [A.cnt] at C6
  generalize nf (chnL n P T) = f1 at C1
  generalize nf (chnL n P' T') = f2 at C2
  generalize nf (layL n P T) = f3 at C3
  generalize nf (layL n P' T') = f4 at C4
  generalize topH n P T = tp at C1 C2
  generalize (layL n P T).length = ly at C3 C4
  generalize chC n P T = ch at C5 C6
  have z1 : (ch == ch) = true := by simp
  clear A V V' hw hw' hh hh' hT
  go_enter Tryd.func57, Tryd.ntmps57
  go_upto_region 2 with (first
    | (go_at_call 45; (with_reducible refine (C1.out _ (Gr.refl _)).mono ?_); rintro e w1 ⟨x1, y1, rfl, r11, r12, g1⟩; have G1 := Lib.hid g1; clear g1 r12))
  go_upto_region 3 with (first
    | (go_at_call 45; (with_reducible refine (C2.out _ G1.out).mono ?_); rintro e w2 ⟨x2, y2, rfl, r21, r22, g2⟩; have G2 := Lib.hid (G1.out.trans g2); clear g2 r22))
  go_upto_region 4 with (first
    | (go_at_call 17; (with_reducible refine (C3.out _ G2.out).mono ?_); rintro e w3 ⟨x3, y3, rfl, r31, r32, g3⟩; have G3 := Lib.hid (G2.out.trans g3); clear g3 r32))
  go_upto_region 5 with (first
    | (go_at_call 17; (with_reducible refine (C4.out _ G3.out).mono ?_); rintro e w4 ⟨x4, y4, rfl, r41, r42, g4⟩; have G4 := Lib.hid (G3.out.trans g4); clear g4 r42))
  go_upto_region 6 with (first
    | (go_at_call 55; (with_reducible refine (C5.out _ G4.out).mono ?_); rintro e w5 ⟨rfl, g5⟩; have G5 := Lib.hid (G4.out.trans g5); clear g5))
  go_upto_region 7 with (first
    | (go_at_call 55; (with_reducible refine (C6.out _ G5.out).mono ?_); rintro e w6 ⟨rfl, g6⟩; have G6 := Lib.hid (G5.out.trans g6); clear g6))
  go_wp2_with fail
  go_ret
  exact ⟨rfl, G6.out⟩

theorem wf_small {x : Int} (h : -4611686018427387904 ≤ x ∧ x ≤ 4611686018427387904) : (Lit.int .i64 x).wf = true := WalkArith.wf_i64 (by omega)
theorem wfH_of {n : Nat} {P T : Nat → Int} (V : VH n P T) : WfH n P T := fun i hi => by
  have := V.ok i hi
  exact ⟨wf_small (x := P i) (by omega), wf_small (x := T i) (by omega)⟩

set_option maxHeartbeats 4000000 in
set_option maxRecDepth 20000 in
theorem walk_ok (adr : Option Addr) (n cc : Nat) (P T : Nat → Int) (p t : Int) (v0 v1 : Nat) (w : World) (V : VH n P T) (hw : WfH n P T) (hh : RdM w adr n P T) (hT : Tab w) (b0 : v0 ≤ 255) (b1 : v1 ≤ 255) :
    Calls Tryd.prog 14 #[.slice adr n cc, .agg #[.int .i64 p, .int .i64 t], .agg #[.int .u8 v0, .int .u8 v1]] w (RetB true w) := by
  have hn := V.few
  have hp := V.pos
  have TT := Lib.hid hT
  have t1 : decide (40 < n) = false := by simp; omega
  have V2 := vH_turned V
  have W2 := wfH_of V2
  have hA : v0 % n < n := Nat.mod_lt _ hp
  have hB : v1 % n < n := Nat.mod_lt _ hp
  have m0 : ((v0 : Int)).tmod (n : Int) = ((v0 % n : Nat) : Int) := by rw [Int.tmod_eq_emod_of_nonneg (by omega)]; rfl
  have m1 : ((v1 : Int)).tmod (n : Int) = ((v1 % n : Nat) : Int) := by rw [Int.tmod_eq_emod_of_nonneg (by omega)]; rfl
  have n0 : ((n : Int) == 0) = false := by simp; omega
  have n1 : ¬ (n : Int) = 0 := by omega
  generalize v0 % n = A at hA m0
  generalize v1 % n = B at hB m1
  -- the contracts
  have CV := Lib.hid (fun w1 (k : Gr w w1) => by have := (refValid_any adr n cc P T w1 (by omega) (hh.gr k)).mono fun _ _ h => h.b; rw [vH_iff.2 V] at this; exact this)
  have CT := Lib.hid (fun w1 (k : Gr w w1) => by have := Turned_any adr n cc P T w1 (by omega) hw (hh.gr k); rw [show tuN n P T = n by unfold tuN; rw [vH_iff.2 V]; rfl, errH_ok V] at this; exact this)
  have CU := Lib.hid (fun w1 a c (k : RdM w1 a n P (fun i => -T i)) => show Calls Tryd.prog 33 #[.slice a n c] w1 (RetMf n P T 0 w1) from by
    have := (Turned_any a n c P (fun i => -T i) w1 (by omega) W2 k)
    rw [show tuN n P (fun i => -T i) = n by unfold tuN; rw [vH_iff.2 V2]; rfl, errH_ok V2] at this
    refine this.mono ?_
    rintro e w' ⟨a, c, h1, h2, h3, h4, h5⟩
    exact ⟨a, c, h1, h2, h3, h4.congr fun i _ => ⟨rfl, by omega⟩, h5⟩)
  have CS := Lib.hid (fun w1 a c (k : Gr w w1) (l : RdM w1 a n P T) => SameHits_v a adr n c cc P T w1 (by omega) l (hh.gr k))
  have CA := Lib.hid (fun w1 a c (k : Gr w w1) (l : RdM w1 a n P (fun i => -T i)) => alike_any adr a n cc c P T P (fun i => -T i) w1 (Alk.turned V) V V2 hw W2 (hh.gr k) l (hT.gr k))
  have CB := Lib.hid (fun w1 (k : Gr w w1) => Before_ok adr n cc P T A B w1 V hA hB hw (hh.gr k))
  have CC := Lib.hid (fun w1 a c (l : RdM w1 a n P (fun i => -T i)) => by have := Before_ok a n c P (fun i => -T i) B A w1 V2 hB hA W2 l; rw [bf_turned] at this; exact this)
  have CM := Lib.hid (fun w1 (k : Gr w w1) => Moved_any adr n cc P T p t w1 (by omega) hw (hh.gr k))
  have G0 := Lib.hid (((Gr.refl w).alloc (.cells #[.int .i64 p, .int .i64 t] 62)).alloc (.cells #[.int .u8 v0, .int .u8 v1] 63))
  have p0 := Lib.hid ((((Gr.refl (w.alloc (.cells #[.int .i64 p, .int .i64 t] 62))).alloc (.cells #[.int .u8 v0, .int .u8 v1] 63)).fresh' (b := w.heap.size) (j := 0) (v := .int .i64 p) rfl rfl).1)
  have p1 := Lib.hid ((((Gr.refl (w.alloc (.cells #[.int .i64 p, .int .i64 t] 62))).alloc (.cells #[.int .u8 v0, .int .u8 v1] 63)).fresh' (b := w.heap.size) (j := 1) (v := .int .i64 t) rfl rfl).1)
  have c0 := ((Gr.refl ((w.alloc (.cells #[.int .i64 p, .int .i64 t] 62)).alloc (.cells #[.int .u8 v0, .int .u8 v1] 63))).fresh' (b := w.heap.size + 1) (j := 0) (v := .int .u8 v0) (by simp) rfl).1
  have c1 := ((Gr.refl ((w.alloc (.cells #[.int .i64 p, .int .i64 t] 62)).alloc (.cells #[.int .u8 v0, .int .u8 v1] 63))).fresh' (b := w.heap.size + 1) (j := 1) (v := .int .u8 v1) (by simp) rfl).1
  have C0 := Lib.hid c0
  have C1 := Lib.hid c1
  clear c0 c1
  have OK : errM n P T p t = 2 ∧ mvN n P T p t = 0 ∨ okMK P T p t n = true ∧ errM n P T p t = 0 ∧ mvN n P T p t = n := by
    unfold errM mvN
    rw [vH_iff.2 V]
    cases okMK P T p t n
    · exact .inl ⟨rfl, rfl⟩
    · exact .inr ⟨rfl, rfl, rfl⟩
  have SM := Lib.hid (fun h => moved_by (p := p) (t := t) V h)
  have XM := Lib.hid (fun (h : okMK P T p t n = true) => show VH n (fun i => P i + p) (fun i => T i + t) from vH_iff.1 (by rw [vH_moved V]; exact h))
  have CD := Lib.hid (fun (h : okMK P T p t n = true) w1 a c (l : RdM w1 a n (fun i => P i + p) (fun i => T i + t)) => by have := Before_ok a n c (fun i => P i + p) (fun i => T i + t) A B w1 (XM.out h) hA hB (wfH_of (XM.out h)) l; rw [bf_moved] at this; exact this)
  have CE := Lib.hid (fun (h : okMK P T p t n = true) w1 a c (l : RdM w1 a n (fun i => P i + p) (fun i => T i + t)) => show Calls Tryd.prog 31 #[.slice a n c, .int .i64 (-p), .int .i64 (-t)] w1 (RetMf n P T 0 w1) from by
    have := Moved_any a n c (fun i => P i + p) (fun i => T i + t) (-p) (-t) w1 (by omega) (wfH_of (XM.out h)) l
    rw [show mvN n (fun i => P i + p) (fun i => T i + t) (-p) (-t) = n by unfold mvN; rw [vH_iff.2 (XM.out h), moved_back V p t]; rfl, show errM n (fun i => P i + p) (fun i => T i + t) (-p) (-t) = 0 by unfold errM; rw [vH_iff.2 (XM.out h), moved_back V p t]; rfl] at this
    refine this.mono ?_
    rintro e w' ⟨a, c, h1, h2, h3, h4, h5⟩
    exact ⟨a, c, h1, h2, h3, h4.congr fun i _ => ⟨by omega, by omega⟩, h5⟩)
  have CF := Lib.hid (fun (h : okMK P T p t n = true) w1 a c (k : Gr w w1) (l : RdM w1 a n (fun i => P i + p) (fun i => T i + t)) => alike_any adr a n cc c P T (fun i => P i + p) (fun i => T i + t) w1 (Alk.moved V p t) V (XM.out h) hw (wfH_of (XM.out h)) (hh.gr k) l (hT.gr k))
  clear V V2 W2 hw hh hT
  generalize errM n P T p t = em at CM OK
  generalize mvN n P T p t = mn at CM OK
  generalize okMK P T p t n = ok at OK SM XM CD CE CF
  generalize bf P T A B = ab at *
  go_enter Tryd.func14, Tryd.ntmps14
  have z0 : (ab == ab) = true := by simp
  have z1 : (ab != ab) = false := by simp
  go_upto_region 3 with (first
    | (go_at_call 15; refine (Long_any adr n cc _ (by omega)).mono ?_; rintro e w1 ⟨rfl, rfl⟩; rw [t1])
    | (go_at_call 27; (with_reducible refine (CV.out _ G0.out).mono ?_); rintro e w1 ⟨rfl, g1⟩; have G1 := Lib.hid (G0.out.trans g1); have B1 := Lib.hid (And.intro (g1.cell p0.out) (g1.cell p1.out)); have D1 := Lib.hid (And.intro (g1.cell C0.out) (g1.cell C1.out)); clear g1))
  clear G0 p0 p1 C0 C1
  go_upto_region 4 with (first
    | (go_at_call 33; (with_reducible refine (CT.out _ G1.out).mono ?_); rintro e w2 ⟨x1, y1, rfl, r11, r12, r13, g2⟩; have R1 := Lib.hid r13; have G2 := Lib.hid (G1.out.trans g2); have B2 := Lib.hid (And.intro (g2.cell B1.out.1) (g2.cell B1.out.2)); have D2 := Lib.hid (And.intro (g2.cell D1.out.1) (g2.cell D1.out.2)); clear g2 r13))
  clear G1 B1 D1
  go_upto_region 5 with (first
    | (go_at_call 33; (with_reducible refine (CU.out _ _ _ R1.out).mono ?_); rintro e w3 ⟨x2, y2, rfl, r21, r22, r23, g3⟩; have R2 := Lib.hid r23; have R3 := Lib.hid (R1.out.gr g3); have G3 := Lib.hid (G2.out.trans g3); have B3 := Lib.hid (And.intro (g3.cell B2.out.1) (g3.cell B2.out.2)); have D3 := Lib.hid (And.intro (g3.cell D2.out.1) (g3.cell D2.out.2)); clear g3 r23))
  clear G2 B2 D2 R1
  go_upto_region 7 with (first
    | (go_at_call 35; (with_reducible refine (CS.out _ _ _ G3.out R2.out).mono ?_); rintro e w4 ⟨rfl, g4⟩; have R4 := Lib.hid (R3.out.gr g4); have G4 := Lib.hid (G3.out.trans g4); have B4 := Lib.hid (And.intro (g4.cell B3.out.1) (g4.cell B3.out.2)); have D4 := Lib.hid (And.intro (g4.cell D3.out.1) (g4.cell D3.out.2)); clear g4)
    | (go_at_call 57; (with_reducible refine (CA.out _ _ _ G4.out R4.out).mono ?_); rintro e w5 ⟨rfl, g5⟩; have R5 := Lib.hid (R4.out.gr g5); have G5 := Lib.hid (G4.out.trans g5); have B5 := Lib.hid (And.intro (g5.cell B4.out.1) (g5.cell B4.out.2)); have D5 := Lib.hid (And.intro (g5.cell D4.out.1) (g5.cell D4.out.2)); clear g5))
  clear G3 B3 D3 R3 R2 G4 B4 D4 R4 CA
  have d0 := D5.out.1
  have d1 := D5.out.2
  go_quiet (fail)
  generalize hwa : World.drewN _ _ = wa
  have g6 : Gr w5 wa := by rw [← hwa]; exact (Gr.refl _).drewN _
  have R6 := Lib.hid (R5.out.gr g6)
  have G6 := Lib.hid (G5.out.trans g6)
  have B6 := Lib.hid (And.intro (g6.cell B5.out.1) (g6.cell B5.out.2))
  clear hwa g6 d0 d1 D5 R5 G5 B5 m0 m1 n0 n1
  go_upto_region 9 with (first
    | (go_at_call 22; (with_reducible refine (CB.out _ G6.out).mono ?_); rintro e w7 ⟨rfl, g7⟩; have R7 := Lib.hid (R6.out.gr g7); have G7 := Lib.hid (G6.out.trans g7); have B7 := Lib.hid (And.intro (g7.cell B6.out.1) (g7.cell B6.out.2)); clear g7))
  clear R6 G6 B6
  go_upto_region 12 with (first
    | (go_at_call 22; (with_reducible refine (CC.out _ _ _ R7.out).mono ?_); rintro e w8 ⟨rfl, g8⟩; have G8 := Lib.hid (G7.out.trans g8); have B8 := Lib.hid (And.intro (g8.cell B7.out.1) (g8.cell B7.out.2)); clear g8))
  clear R7 G7 B7
  have q0 := B8.out.1
  have q1 := B8.out.2
  rcases OK with ⟨rfl, rfl⟩ | ⟨rfl, rfl, rfl⟩
  · go_wp2_with (first
      | (go_at_call 31; (with_reducible refine (CM.out _ G8.out).mono ?_); rintro e w9 ⟨x3, y3, rfl, r31, r32, r33, g9⟩; have G9 := Lib.hid (G8.out.trans g9); clear g9 r33)
      | (go_at_call 16; refine (Sane_any _ (TT.out.gr G9.out)).mono ?_; rintro e w10 ⟨rfl, g10⟩; have G10 := Lib.hid (G9.out.trans g10)))
    go_ret
    exact ⟨rfl, G10.out⟩
  · have DD := Lib.hid (CD.out rfl)
    have DE := Lib.hid (CE.out rfl)
    have DF := Lib.hid (CF.out rfl)
    obtain ⟨s1, s2, s3, s4⟩ := SM.out rfl
    have e1 := Lib.hid (show IntKind.i64.wrap (-p) = -p from IntWalk.i64_in _ (by omega))
    have e2 := Lib.hid (show IntKind.i64.wrap (-t) = -t from IntWalk.i64_in _ (by omega))
    have e3 := Lib.hid (show wrap64 (-p) = -p from IntWalk.wrap64_in _ (by omega))
    have e4 := Lib.hid (show wrap64 (-t) = -t from IntWalk.wrap64_in _ (by omega))
    clear s1 s2 s3 s4 SM XM CD CE CF
    go_upto_region 15 with (first
      | (go_at_call 31; (with_reducible refine (CM.out _ G8.out).mono ?_); rintro e w9 ⟨x3, y3, rfl, r31, r32, r33, g9⟩; have R9 := Lib.hid r33; have G9 := Lib.hid (G8.out.trans g9); have B9 := Lib.hid (And.intro (g9.cell B8.out.1) (g9.cell B8.out.2)); clear g9 r33))
    clear q0 q1 B8 G8
    go_upto_region 16 with (first
      | (go_at_call 22; (with_reducible refine (DD.out _ _ _ R9.out).mono ?_); rintro e w10 ⟨rfl, g10⟩; have R10 := Lib.hid (R9.out.gr g10); have G10 := Lib.hid (G9.out.trans g10); have B10 := Lib.hid (And.intro (g10.cell B9.out.1) (g10.cell B9.out.2)); clear g10))
    clear R9 G9 B9
    have q0 := B10.out.1
    have q1 := B10.out.2
    have e1 := e1.out
    have e2 := e2.out
    have e3 := e3.out
    have e4 := e4.out
    go_upto_region 17 with (first
      | (go_at_call 31; (with_reducible refine (DE.out _ _ _ R10.out).mono ?_); rintro e w11 ⟨x4, y4, rfl, r41, r42, r43, g11⟩; have R11 := Lib.hid r43; have Q11 := Lib.hid (R10.out.gr g11); have G11 := Lib.hid (G10.out.trans g11); clear g11 r43))
    clear q0 q1 B10 G10 R10 e1 e2 e3 e4
    go_wp2_with (first
      | (go_at_call 35; (with_reducible refine (CS.out _ _ _ G11.out R11.out).mono ?_); rintro e w12 ⟨rfl, g12⟩; have Q12 := Lib.hid (Q11.out.gr g12); have G12 := Lib.hid (G11.out.trans g12); clear g12)
      | (go_at_call 57; (with_reducible refine (DF.out _ _ _ G12.out Q12.out).mono ?_); rintro e w13 ⟨rfl, g13⟩; have G13 := Lib.hid (G12.out.trans g13); clear g13)
      | (go_at_call 16; refine (Sane_any _ (TT.out.gr G13.out)).mono ?_; rintro e w14 ⟨rfl, g14⟩; have G14 := Lib.hid (G13.out.trans g14)))
    go_ret
    exact ⟨rfl, G14.out⟩

set_option maxHeartbeats 2000000 in
set_option maxRecDepth 20000 in
theorem walk (adr : Option Addr) (n cc : Nat) (P T : Nat → Int) (p t : Int) (X0 X1 : Int) (w : World) (hn : n ≤ 9223372036854775807) (hw : WfH n P T) (hh : RdM w adr n P T) (_wp : (Lit.int .i64 p).wf = true) (_wt : (Lit.int .i64 t).wf = true) (w0 : (Lit.int .u8 X0).wf = true) (w1 : (Lit.int .u8 X1).wf = true) (hT : Tab w) :
    Calls Tryd.prog 14 #[.slice adr n cc, .agg #[.int .i64 p, .int .i64 t], .agg #[.int .u8 X0, .int .u8 X1]] w (RetB true w) := by
  obtain ⟨v0, rfl, b0⟩ := wf8 w0
  obtain ⟨v1, rfl, b1⟩ := wf8 w1
  have TT := Lib.hid hT
  have G0 := Lib.hid (((Gr.refl w).alloc (.cells #[.int .i64 p, .int .i64 t] 62)).alloc (.cells #[.int .u8 v0, .int .u8 v1] 63))
  by_cases h40 : 40 < n
  · have S := Lib.hid (Sane_any _ (TT.out.gr G0.out))
    have t1 : decide (40 < n) = true := by simpa using h40
    clear hw hh hT
    go_enter Tryd.func14, Tryd.ntmps14
    go_wp2_with (first
      | (go_at_call 15; refine (Long_any adr n cc _ hn).mono ?_; rintro e w1 ⟨rfl, rfl⟩; rw [t1])
      | (go_at_call 16; refine S.out.mono ?_; rintro e w2 ⟨rfl, g2⟩))
    go_ret
    exact ⟨rfl, G0.out.trans g2⟩
  have t1 : decide (40 < n) = false := by simpa using h40
  cases hv : vH n P T with
  | false =>
    have CV := Lib.hid (fun w1 (k : Gr w w1) => by have := (refValid_any adr n cc P T w1 (by omega) (hh.gr k)).mono fun _ _ h => h.b; rw [hv] at this; exact this)
    clear hw hh hT
    go_enter Tryd.func14, Tryd.ntmps14
    go_wp2_with (first
      | (go_at_call 15; refine (Long_any adr n cc _ hn).mono ?_; rintro e w1 ⟨rfl, rfl⟩; rw [t1])
      | (go_at_call 27; (with_reducible refine (CV.out _ G0.out).mono ?_); rintro e w1 ⟨rfl, g1⟩; have G1 := Lib.hid (G0.out.trans g1); clear g1)
      | (go_at_call 16; refine (Sane_any _ (TT.out.gr G1.out)).mono ?_; rintro e w2 ⟨rfl, g2⟩))
    go_ret
    exact ⟨rfl, G1.out.trans g2⟩
  | true => exact walk_ok adr n cc P T p t v0 v1 w (vH_iff.1 hv) hw hh hT b0 b1

set_option maxRecDepth 100000 in
theorem contract (H : Type) (enc : TypeId × Value → H) (W : World) (base : Nat) (args : Array Value) (ds gs : List (DataW H)) (before : List MemPlace)
    (hval0 : ∀ (j : Nat) t v, Tryd.f14.params[j]? = some t → args[j]? = some v → Value.okWide Tryd.prog W .any base t v)
    (hW : DataW.Whole enc Tryd.prog Tryd.f14.params.toList Rows.coneTurnsSpec.vars false W args.toList ds gs before) (hL : laidMetH Tryd.prog Rows.coneTurnsRow.laid W) :
    Calls Tryd.prog 14 args W fun e W' => ∃ v, e = .returned v ∧ Rows.coneTurnsSpec.post enc Tryd.prog Tryd.f14 false true false false W args v W' := by
  have hval : ∀ (j : Nat) t v, Tryd.f14.params[j]? = some t → args[j]? = some v → Value.okWide Tryd.prog W .any base t v := hval0
  have hW' := hW
  obtain ⟨p, q, hA0, hV, rfl, hfz, hnd⟩ := hW
  have hA : DataW.TrodAll enc Tryd.prog W 0 (fun _ => true) true Tryd.f14.params.toList args.toList ds p := hA0
  rw [Tryd.params14] at hA hval
  obtain ⟨v0, vs0, d0, ds0, p0, q0, hargs, rfl, rfl, h0, r0⟩ := trodAll_cons hA
  obtain ⟨v1, vs1, d1, ds1, p1, q1, rfl, rfl, rfl, h1, r1⟩ := trodAll_cons r0
  obtain ⟨v2, vs2, d2, ds2, p2, q2, rfl, rfl, rfl, h2, r2⟩ := trodAll_cons r1
  obtain ⟨rfl, rfl, rfl⟩ := trodAll_nil r2
  obtain rfl : args = #[v0, v1, v2] := by cases args; simp_all
  obtain ⟨rfl, rfl⟩ := trodVars_none hV
  obtain ⟨a0, len0, cap0, rfl⟩ := okWide_slice Tryd.underlying22 (hval 0 22 v0 rfl rfl)
  have k0 := h0
  have lt0 : ∀ x ∈ p0, x.block < W.heap.size := by obtain ⟨m, hm⟩ := k0; exact DataW.trod_lt m _ _ _ hm
  obtain ⟨x0, y0, wn0, wf0, wr0⟩ : ∃ f g : Nat → Int, len0 ≤ 9223372036854775807 ∧ (∀ i, i < len0 → (Lit.int .i64 (f i)).wf = true ∧ (Lit.int .i64 (g i)).wf = true) ∧ RdM W a0 len0 f g := by
    obtain ⟨fuel, hf⟩ := h0
    exact RdM.of_trod Tryd.underlying22 Tryd.underlying51 (by kernel_rfl) ⟨rfl, rfl⟩ ⟨rfl, rfl⟩ (by kernel_rfl) Tryd.underlying3 hf
  have k1 := h1
  have lt1 : ∀ x ∈ p1, x.block < W.heap.size := by obtain ⟨m, hm⟩ := k1; exact DataW.trod_lt m _ _ _ hm
  obtain ⟨x1_0, x1_1, rfl, w1_0, w1_1⟩ := open_arr2 (q := .i64) Tryd.underlying62 Tryd.underlying3 (by kernel_rfl) (by kernel_rfl) (hval 1 62 v1 rfl rfl) h1
  have k2 := h2
  have lt2 : ∀ x ∈ p2, x.block < W.heap.size := by obtain ⟨m, hm⟩ := k2; exact DataW.trod_lt m _ _ _ hm
  obtain ⟨x2_0, x2_1, rfl, w2_0, w2_1⟩ := open_arr2 (q := .u8) Tryd.underlying63 Tryd.underlying5 (by kernel_rfl) (by kernel_rfl) (hval 2 63 v2 rfl rfl) h2
  clear hA0 hval0
  refine (walk a0 len0 cap0 x0 y0 x1_0 x1_1 x2_0 x2_1 W wn0 wf0 wr0 w1_0 w1_1 w2_0 w2_1 (tab_of hL)).mono fun e W' ⟨he, bel⟩ => ?_
  subst he
  exact ⟨_, rfl, _, _, _, [], _, [], hW', trodAll_mk1 (shut_bool Tryd.underlying4 _), (trodAll_cons_mk (Below.trod laidOut (by kernel_rfl) (of_decide_eq_true (by kernel_rfl)) k0 bel lt0) (trodAll_cons_mk (Below.trod laidOut (by kernel_rfl) (of_decide_eq_true (by kernel_rfl)) k1 bel lt1) (trodAll_cons_mk (Below.trod laidOut (by kernel_rfl) (of_decide_eq_true (by kernel_rfl)) k2 bel lt2) trodAll_mk0))), rfl, bel.frame _, fun h => by cases h⟩

set_option maxRecDepth 100000 in
theorem met (os : Os) : laidMet Tryd.prog Rows.coneTurnsRow.laid ((laidWorld os).forCall (fun _ _ => 0) ⟨#[], #[.slice none 0 0, .agg #[.int .i64 0, .int .i64 0], .agg #[.int .u8 0, .int .u8 0]], []⟩).memory :=
  laidMet_of_run' 8 (by kernel_rfl) (by kernel_rfl)
set_option maxRecDepth 100000 in
theorem reads (os : Os) (H : Type) (enc : TypeId × Value → H) : ∃ places, DataW.whole enc Tryd.prog ((laidWorld os).forCall (fun _ _ => 0) ⟨#[], #[.slice none 0 0, .agg #[.int .i64 0, .int .i64 0], .agg #[.int .u8 0, .int .u8 0]], []⟩).memory Tryd.f14.params.toList Rows.coneTurnsSpec.vars false (#[.slice none 0 0, .agg #[.int .i64 0, .int .i64 0], .agg #[.int .u8 0, .int .u8 0]] : Array Value).toList 8 = some ([.nil, .agg [.lit (.int .i64 0), .lit (.int .i64 0)], .agg [.lit (.int .u8 0), .lit (.int .u8 0)]], [], places) :=
  ⟨[], by kernel_rfl⟩

set_option maxRecDepth 100000 in
theorem lifted (os : Os) (started : os.Started) (H : Type) (enc : TypeId × Value → H) (F : Stop.Interp) :
    ReturnsInHanded {} Tryd.checked os 14 .any ((OpenSpec.ofChange Rows.coneTurnsSpec).preRow enc Tryd.prog Tryd.f14 Rows.coneTurnsRow.domain false Rows.coneTurnsRow.laid) (((OpenSpec.ofChange Rows.coneTurnsSpec).at F).post enc Tryd.prog Tryd.f14 false true false false) := by
  obtain ⟨places, hx⟩ := reads os H enc
  refine returnsInHanded_of_row (C := Tryd.checked) (s := OpenSpec.ofChange Rows.coneTurnsSpec) own started (by kernel_rfl) Tryd.func14
    (witness_row_at (enc := enc) (C := Tryd.checked) false (laidWorld os) #[.slice none 0 0, .agg #[.int .i64 0, .int .i64 0], .agg #[.int .u8 0, .int .u8 0]] rfl (by kernel_rfl) (by kernel_rfl) (by kernel_rfl)
      (OpenSpec.preRow_of_cond 8 hx (by kernel_rfl) (fun k hk => by cases hk) (by kernel_rfl) (met os))) ?_
  intro W base args ds gs before hval hW _ _ _ hL _ _
  exact contract H enc W base args ds gs before hval hW hL

theorem said : Rows.ConeTurnsSaid :=
  OpenClaim.holds_of_cond 14 Tryd.f14 rfl rfl rfl rfl rfl rfl rfl ⟨rfl, rfl, rfl, rfl, rfl⟩ rfl rfl rfl rfl rfl (by kernel_rfl) Tryd.func14 (by kernel_rfl)
    (of_decide_eq_true (by kernel_rfl)) (by unfold Func.isWrapper; first | (rw [if_pos (by decide +kernel)]; kernel_rfl) | (rw [if_neg (by decide +kernel)]; exact ⟨rfl, rfl⟩))
    (fun os started H enc _ F => by rw [OpenClaim.pre_eq_preRow]; exact lifted os started H enc F)

set_option maxRecDepth 100000 in
theorem plain (f : FuncId) (fn : Func) (hf : Tryd.pinned.checked.prog.funcNamed Rows.coneTurnsRow.func = some f) (hfn : Tryd.pinned.checked.prog.funcs[f]? = some fn) :
    false = Tryd.pinned.checked.prog.looks [] ∧ ∀ (j : Nat) t, fn.params[j]? = some t → Tryd.pinned.checked.prog.wantsStandIn t = false := by
  obtain rfl : f = 14 := Option.some.inj ((show Tryd.prog.funcNamed Rows.coneTurnsRow.func = some 14 by kernel_rfl).symm.trans hf) |>.symm
  obtain rfl : fn = Tryd.f14 := (Option.some.inj (Tryd.func14.symm.trans hfn)).symm
  refine ⟨by kernel_rfl, fun j t ht => ?_⟩
  rw [Tryd.params14] at ht
  have hm : t ∈ (#[22, 62, 63] : Array TypeId) := Array.mem_of_getElem? ht
  simp only [List.mem_toArray, List.mem_cons, List.not_mem_nil, or_false] at hm
  rcases hm with rfl | rfl | rfl
  all_goals first
    | exact (show Tryd.prog.wantsStandIn 22 = false by kernel_rfl)
    | exact (show Tryd.prog.wantsStandIn 62 = false by kernel_rfl)
    | exact (show Tryd.prog.wantsStandIn 63 = false by kernel_rfl)

/-- The statement. -/
theorem proved : Rows.ConeTurnsCardSaid :=
  Claim7.holds_tied_plain_at .later [] _ _ _ _ said (fun _ h => by cases h) (by kernel_rfl) (fun _ h => by cases h) coneTurns_row_tie rfl ⟨rfl, rfl⟩ (by kernel_rfl) rfl plain (by kernel_rfl)
end Go.Proofs.YtjokheeegcilhaaDoor.coneTurns
