/- TopTick: its walk. -/
import Derived.Test.YtdlbgelidcfmiaaGreatDoorFrt
import Derived.Test.YtdlbgelidcfmiaaGreatDoorPZ
namespace Go.Proofs.YtdlbgelidcfmiaaGreatDoor.topTick
open Go.ChangeShapes Go.WideShapes Go.ChangeAt Go.RowKit Go.Firn


set_option maxHeartbeats 32000000 in
set_option maxRecDepth 100000 in
theorem walk_tT0 (b lo sp : Int) (a1 a2 a3 : Option Addr) (nr c1 n c2 n' c3 m : Nat) (f F L T L' T' kl kt : Nat → Int) (S : ByteArray) (w : World) {tn td m1 q1 m2 q2 : Int}
    (DL1 : Hid (∀ wx, Calls Tryz.prog 4 #[.slice a2 n c2] wx fun e w' => e = .returned (.bool false) ∧ wx = w'))
    (DL2 : Hid (∀ wx, Calls Tryz.prog 4 #[.slice a3 n' c3] wx fun e w' => e = .returned (.bool false) ∧ wx = w'))
    (D6 : Hid (∀ a c w, RdI w a nr f → Calls Tryz.prog 6 #[.int .i64 b, .slice a nr c] w (RetIs nr F 0 w)))
    (D8 : Hid (∀ a c w, RdI w a nr F → Calls Tryz.prog 8 #[.int .i64 b, .slice a nr c] w (RetIs nr f 0 w)))
    (D9 : Hid (∀ a c a' c' (g : Nat → Int) w, RdI w a nr g → RdI w a' nr g → Calls Tryz.prog 9 #[.slice a nr c, .slice a' nr c'] w (RetB true w)))
    (HF : Hid (RdI w a1 nr f))
    (D7 : Hid (∀ wx, Gr w wx → Calls Tryz.prog 7 #[.int .i64 b, .slice a1 nr c1] wx fun e w' => e = .returned (.bool true) ∧ wx = w'))
    (D10c : Hid (∀ wx, Gr w wx → Calls Tryz.prog 10 #[.slice a2 n c2] wx (RetB true wx)))
    (D10d : Hid (∀ wx, Gr w wx → Calls Tryz.prog 10 #[.slice a3 n' c3] wx (RetB true wx)))
    (HC : Hid (RdM w a2 n L T)) (HD : Hid (RdM w a3 n' L' T'))
    (D11 : Hid (∀ a c w, RdM w a n L T → Calls Tryz.prog 11 #[.slice a n c] w (RetMf m kl kt 0 w)))
    (D12 : Hid (∀ a c w, RdM w a n L T → Calls Tryz.prog 12 #[.slice a n c] w (RetMf n T L 0 w)))
    (D13 : Hid (∀ wx, Gr w wx → Calls Tryz.prog 13 #[.slice a2 n c2] wx (RetTE S 0 wx)))
    (D14 : Hid (∀ a c w, RdM w a n L T → Calls Tryz.prog 14 #[.slice a n c, .int .i64 (lo % 100001)] w (RetRE tn td 0 w)))
    (D14s : Hid (∀ a c w, RdM w a m kl kt → Calls Tryz.prog 14 #[.slice a m c, .int .i64 (lo % 100001)] w (RetRE tn td 0 w)))
    (D14d : Hid (∀ a c w, RdM w a n' L' T' → Calls Tryz.prog 14 #[.slice a n' c, .int .i64 (lo % 100001)] w (RetRE tn td 0 w)))
    (D15 : Hid (∀ wx, Gr w wx → Calls Tryz.prog 15 #[.string S] wx (RetMf n L T 0 wx)))
    (D16s : Hid (∀ a c w, RdM w a m kl kt → Calls Tryz.prog 16 #[.slice a m c, .agg #[.int .i64 tn, .int .i64 td]] w (RetRE (lo % 100001) 1 0 w)))
    (D16i : Hid (∀ a c w, RdM w a n T L → Calls Tryz.prog 16 #[.slice a n c, .agg #[.int .i64 (lo % 100001), .int .i64 1]] w (RetRE tn td 0 w)))
    (D17 : Hid (∀ a a' c c' w, RdM w a n L T → RdM w a' n L T → Calls Tryz.prog 17 #[.slice a n c, .slice a' n c'] w (RetB true w)))
    (D18a : Hid (∀ a a' c c' w, RdM w a n L T → RdM w a' n' L' T' → Calls Tryz.prog 18 #[.slice a n c, .slice a' n' c'] w (RetBE true 0 w)))
    (D18b : Hid (∀ a a' c c' w, RdM w a n L T → RdM w a' n' L' T' → Calls Tryz.prog 18 #[.slice a' n' c', .slice a n c] w (RetBE true 0 w)))
    (D19a : Hid (∀ a a' c c' w, RdM w a n L T → RdM w a' n' L' T' → Calls Tryz.prog 19 #[.slice a n c, .slice a' n' c', .int .i64 (lo % 100001), .int .i64 (min (lo % 100001 + sp) 100000)] w (RetIRE m1 0 q1 0 w)))
    (D19b : Hid (∀ a a' c c' w, RdM w a n L T → RdM w a' m kl kt → Calls Tryz.prog 19 #[.slice a n c, .slice a' m c', .int .i64 (lo % 100001), .int .i64 (min (lo % 100001 + sp) 100000)] w (RetIRE m2 0 q2 0 w)))
    (n1 : ¬ (nr : Int) > 200) (l0 : 0 ≤ lo) (l1 : lo ≤ 4294967295) (s0 : 0 ≤ sp) (s1 : sp ≤ 255) :
    Calls Tryz.prog 3 #[.int .i64 b, .slice a1 nr c1, .slice a2 n c2, .slice a3 n' c3, .int .u32 lo, .int .u8 sp] w (RetB true w) := by
  have x0 : 0 ≤ lo % 100001 := by omega
  have x1 : lo % 100001 ≤ 100000 := by omega
  have v1 : IntKind.i64.wrap lo = lo := IntWalk.i64_in _ (by omega)
  have v2 : IntKind.i64.wrap sp = sp := IntWalk.i64_in _ (by omega)
  have v3 : IntKind.i64.wrap (lo % 100001 + sp) = lo % 100001 + sp := IntWalk.i64_in _ (by omega)
  go_enter Tryz.func3, Tryz.ntmps3
  go_wp2_with (first
    | (go_at_call 4; (with_reducible refine (DL1.out _).mono ?_); rintro e u1 ⟨rfl, rfl⟩)
    | (go_at_call 4; (with_reducible refine (DL2.out _).mono ?_); rintro e u2 ⟨rfl, rfl⟩)
    | (go_at_call 6; (with_reducible refine (D6.out _ _ _ HF.out).mono ?_); rintro e w1 ⟨a6, c6, rfl, _, _, r6, g1⟩; have G1 := Lib.hid g1; have R6 := Lib.hid r6; clear g1 r6)
    | (go_at_call 7; (with_reducible refine (D7.out _ G1.out).mono ?_); rintro e u3 ⟨rfl, rfl⟩)
    | (go_at_call 8; (with_reducible refine (D8.out _ _ _ R6.out).mono ?_); rintro e w2 ⟨a8, c8, rfl, _, _, r8, g2⟩; have G2 := Lib.hid (G1.out.trans g2); have R6b := Lib.hid (R6.out.gr g2); have R8 := Lib.hid r8; clear g2 r8)
    | (go_at_call 6; (with_reducible refine (D6.out _ _ _ R8.out).mono ?_); rintro e w3 ⟨a7, c7, rfl, _, _, r7, g3⟩; have G3 := Lib.hid (G2.out.trans g3); have R6c := Lib.hid (R6b.out.gr g3); have R8c := Lib.hid (R8.out.gr g3); have R7 := Lib.hid r7; clear g3 r7)
    | (go_at_call 9; (with_reducible refine (D9.out _ _ _ _ f _ R8c.out (HF.out.gr G3.out)).mono ?_); rintro e w4 ⟨rfl, g4⟩; have G4 := Lib.hid (G3.out.trans g4); have R6d := Lib.hid (R6c.out.gr g4); have R7d := Lib.hid (R7.out.gr g4); clear g4)
    | (go_at_call 9; (with_reducible refine (D9.out _ _ _ _ F _ R7d.out R6d.out).mono ?_); rintro e w5 ⟨rfl, g5⟩; have G5 := Lib.hid (G4.out.trans g5); clear g5)
    | (go_at_call 10; (with_reducible refine (D10c.out _ G5.out).mono ?_); rintro e w6 ⟨rfl, g6⟩; have G6 := Lib.hid (G5.out.trans g6); clear g6)
    | (go_at_call 10; (with_reducible refine (D10d.out _ G6.out).mono ?_); rintro e w7 ⟨rfl, g7⟩; have G7 := Lib.hid (G6.out.trans g7); clear g7)
    | (go_at_call 11; (with_reducible refine (D11.out _ _ _ (HC.out.gr G7.out)).mono ?_); rintro e w8 ⟨az, cz, rfl, _, _, rs, g8⟩; have G8 := Lib.hid (G7.out.trans g8); have RS8 := Lib.hid rs; clear g8 rs)
    | (go_at_call 12; (with_reducible refine (D12.out _ _ _ (HC.out.gr G8.out)).mono ?_); rintro e w9 ⟨ai, ci, rfl, _, _, ri, g9⟩; have G9 := Lib.hid (G8.out.trans g9); have RS9 := Lib.hid (RS8.out.gr g9); have RI9 := Lib.hid ri; clear g9 ri)
    | (go_at_call 13; (with_reducible refine (D13.out _ G9.out).mono ?_); rintro e w10 ⟨rfl, g10⟩; have G10 := Lib.hid (G9.out.trans g10); have RS10 := Lib.hid (RS9.out.gr g10); have RI10 := Lib.hid (RI9.out.gr g10); clear g10)
    | (go_at_call 14; (with_reducible refine (D14.out _ _ _ (HC.out.gr G10.out)).mono ?_); rintro e w11 ⟨rfl, g11⟩; have G11 := Lib.hid ((G10.out.trans g11).alloc (.cells #[.int .i64 tn, .int .i64 td] 37)); have RS11 := Lib.hid ((RS10.out.gr g11).gr ((Gr.refl w11).alloc (.cells #[.int .i64 tn, .int .i64 td] 37))); have RI11 := Lib.hid ((RI10.out.gr g11).gr ((Gr.refl w11).alloc (.cells #[.int .i64 tn, .int .i64 td] 37))); clear g11)
    | (go_at_call 15; (with_reducible refine (D15.out _ G11.out).mono ?_); rintro e w12 ⟨ap, cp, rfl, _, _, rp, g12⟩; have G12 := Lib.hid (G11.out.trans g12); have RS12 := Lib.hid (RS11.out.gr g12); have RI12 := Lib.hid (RI11.out.gr g12); have RP12 := Lib.hid rp; have Z12 := Lib.hid (And.intro (g12.cell (box_ii w11 tn td 37).1) (g12.cell (box_ii w11 tn td 37).2)); clear g12 rp)
    | (go_at_call 14; (with_reducible refine (D14s.out _ _ _ RS12.out).mono ?_); rintro e w13 ⟨rfl, g13⟩; have gb := g13.trans ((Gr.refl w13).alloc (.cells #[.int .i64 tn, .int .i64 td] 37)); have G13 := Lib.hid (G12.out.trans gb); have RS13 := Lib.hid (RS12.out.gr gb); have RI13 := Lib.hid (RI12.out.gr gb); have RP13 := Lib.hid (RP12.out.gr gb); have y25a := gb.cell Z12.out.1; have y25b := gb.cell Z12.out.2; have Z13 := Lib.hid (And.intro y25a y25b); clear g13 gb)
    | (go_at_call 16; (with_reducible refine (D16s.out _ _ _ RS13.out).mono ?_); rintro e w14 ⟨rfl, g14⟩; have gb := g14.trans ((Gr.refl w14).alloc (.cells #[.int .i64 (lo % 100001), .int .i64 1] 37)); have G14 := Lib.hid (G13.out.trans gb); have RS14 := Lib.hid (RS13.out.gr gb); have RI14 := Lib.hid (RI13.out.gr gb); have RP14 := Lib.hid (RP13.out.gr gb); have Z14 := Lib.hid (And.intro (gb.cell Z13.out.1) (gb.cell Z13.out.2)); have Q14 := Lib.hid (And.intro (gb.cell (box_ii w13 tn td 37).1) (gb.cell (box_ii w13 tn td 37).2)); clear g14 gb y25a y25b)
    | (go_at_call 16; (with_reducible refine (D16i.out _ _ _ RI14.out).mono ?_); rintro e w15 ⟨rfl, g15⟩; have gb := g15.trans ((Gr.refl w15).alloc (.cells #[.int .i64 tn, .int .i64 td] 37)); have G15 := Lib.hid (G14.out.trans gb); have RS15 := Lib.hid (RS14.out.gr gb); have RP15 := Lib.hid (RP14.out.gr gb); have Z15 := Lib.hid (And.intro (gb.cell Z14.out.1) (gb.cell Z14.out.2)); have Q15 := Lib.hid (And.intro (gb.cell Q14.out.1) (gb.cell Q14.out.2)); have P15 := Lib.hid (And.intro (gb.cell (box_ii w14 (lo % 100001) 1 37).1) (gb.cell (box_ii w14 (lo % 100001) 1 37).2)); clear g15 gb)
    | (go_at_call 17; (with_reducible refine (D17.out _ _ _ _ _ RP15.out (HC.out.gr G15.out)).mono ?_); rintro e w16 ⟨rfl, g16⟩; have G16 := Lib.hid (G15.out.trans g16); have RS16 := Lib.hid (RS15.out.gr g16); have z25a := g16.cell Z15.out.1; have z25b := g16.cell Z15.out.2; have z28a := g16.cell Q15.out.1; have z28b := g16.cell Q15.out.2; have z29a := g16.cell P15.out.1; have z29b := g16.cell P15.out.2; have z30a := g16.cell (box_ii w15 tn td 37).1; have z30b := g16.cell (box_ii w15 tn td 37).2; have Z16 := Lib.hid (And.intro z25a z25b); clear g16)
    | (go_at_call 18; (with_reducible refine (D18a.out _ _ _ _ _ (HC.out.gr G16.out) (HD.out.gr G16.out)).mono ?_); rintro e w17 ⟨rfl, g17⟩; have G17 := Lib.hid (G16.out.trans g17); have RS17 := Lib.hid (RS16.out.gr g17); have Z17 := Lib.hid (And.intro (g17.cell Z16.out.1) (g17.cell Z16.out.2)); clear g17 z25a z25b z28a z28b z29a z29b z30a z30b)
    | (go_at_call 18; (with_reducible refine (D18b.out _ _ _ _ _ (HC.out.gr G17.out) (HD.out.gr G17.out)).mono ?_); rintro e w18 ⟨rfl, g18⟩; have G18 := Lib.hid (G17.out.trans g18); have RS18 := Lib.hid (RS17.out.gr g18); have Z18 := Lib.hid (And.intro (g18.cell Z17.out.1) (g18.cell Z17.out.2)); clear g18)
    | (go_at_call 19; (with_reducible refine (D19a.out _ _ _ _ _ (HC.out.gr G18.out) (HD.out.gr G18.out)).mono ?_); rintro e w19 ⟨rfl, g19⟩; have gb := g19.trans ((Gr.refl w19).alloc (.cells #[.int .i64 0, .int .i64 q1] 37)); have G19 := Lib.hid (G18.out.trans gb); have RS19 := Lib.hid (RS18.out.gr gb); have Z19 := Lib.hid (And.intro (gb.cell Z18.out.1) (gb.cell Z18.out.2)); clear g19 gb)
    | (go_at_call 19; (with_reducible refine (D19b.out _ _ _ _ _ (HC.out.gr G19.out) RS19.out).mono ?_); rintro e w20 ⟨rfl, g20⟩; have gb := g20.trans ((Gr.refl w20).alloc (.cells #[.int .i64 0, .int .i64 q2] 37)); have G20 := Lib.hid (G19.out.trans gb); have Z20 := Lib.hid (And.intro (gb.cell Z19.out.1) (gb.cell Z19.out.2)); have z35 := gb.cell (box_ii w19 0 q1 37).1; have z37 := (box_ii w20 0 q2 37).1; have U20 := Lib.hid z35; clear g20 gb)
    | (go_at_call 14; (with_reducible refine (D14d.out _ _ _ (HD.out.gr G20.out)).mono ?_); rintro e w21 ⟨rfl, g21⟩; have gb := g21.trans ((Gr.refl w21).alloc (.cells #[.int .i64 tn, .int .i64 td] 37)); have G21 := Lib.hid (G20.out.trans gb); have t25a := gb.cell Z20.out.1; have t25b := gb.cell Z20.out.2; have t35 := gb.cell U20.out; have t38a := (box_ii w21 tn td 37).1; have t38b := (box_ii w21 tn td 37).2; clear g21 gb z35 z37)
    | (go_at_call 5; refine (Awake_any _).mono ?_; rintro e w22 ⟨rfl, g22⟩; have G22 := Lib.hid (G21.out.trans g22); clear g22))
  go_ret
  exact ⟨rfl, G22.out⟩

set_option maxHeartbeats 32000000 in
set_option maxRecDepth 100000 in
theorem walk_tF0 (b lo sp : Int) (a1 a2 a3 : Option Addr) (nr c1 n c2 n' c3 m : Nat) (f F L T L' T' kl kt : Nat → Int) (S : ByteArray) (w : World) {tn td m1 q1 m2 q2 : Int}
    (DL1 : Hid (∀ wx, Calls Tryz.prog 4 #[.slice a2 n c2] wx fun e w' => e = .returned (.bool false) ∧ wx = w'))
    (DL2 : Hid (∀ wx, Calls Tryz.prog 4 #[.slice a3 n' c3] wx fun e w' => e = .returned (.bool false) ∧ wx = w'))
    (D6 : Hid (∀ a c w, RdI w a nr f → Calls Tryz.prog 6 #[.int .i64 b, .slice a nr c] w (RetIs nr F 0 w)))
    (D8 : Hid (∀ a c w, RdI w a nr F → Calls Tryz.prog 8 #[.int .i64 b, .slice a nr c] w (RetIs nr f 0 w)))
    (D9 : Hid (∀ a c a' c' (g : Nat → Int) w, RdI w a nr g → RdI w a' nr g → Calls Tryz.prog 9 #[.slice a nr c, .slice a' nr c'] w (RetB true w)))
    (HF : Hid (RdI w a1 nr f))
    (D7 : Hid (∀ wx, Gr w wx → Calls Tryz.prog 7 #[.int .i64 b, .slice a1 nr c1] wx fun e w' => e = .returned (.bool true) ∧ wx = w'))
    (D10c : Hid (∀ wx, Gr w wx → Calls Tryz.prog 10 #[.slice a2 n c2] wx (RetB true wx)))
    (D10d : Hid (∀ wx, Gr w wx → Calls Tryz.prog 10 #[.slice a3 n' c3] wx (RetB true wx)))
    (HC : Hid (RdM w a2 n L T)) (HD : Hid (RdM w a3 n' L' T'))
    (D11 : Hid (∀ a c w, RdM w a n L T → Calls Tryz.prog 11 #[.slice a n c] w (RetMf m kl kt 0 w)))
    (D12 : Hid (∀ a c w, RdM w a n L T → Calls Tryz.prog 12 #[.slice a n c] w (RetMf n T L 0 w)))
    (D13 : Hid (∀ wx, Gr w wx → Calls Tryz.prog 13 #[.slice a2 n c2] wx (RetTE S 0 wx)))
    (D14 : Hid (∀ a c w, RdM w a n L T → Calls Tryz.prog 14 #[.slice a n c, .int .i64 (lo % 100001)] w (RetRE tn td 0 w)))
    (D14s : Hid (∀ a c w, RdM w a m kl kt → Calls Tryz.prog 14 #[.slice a m c, .int .i64 (lo % 100001)] w (RetRE tn td 0 w)))
    (D14d : Hid (∀ a c w, RdM w a n' L' T' → Calls Tryz.prog 14 #[.slice a n' c, .int .i64 (lo % 100001)] w (RetRE tn td 0 w)))
    (D15 : Hid (∀ wx, Gr w wx → Calls Tryz.prog 15 #[.string S] wx (RetMf n L T 0 wx)))
    (D16s : Hid (∀ a c w, RdM w a m kl kt → Calls Tryz.prog 16 #[.slice a m c, .agg #[.int .i64 tn, .int .i64 td]] w (RetRE (lo % 100001) 1 0 w)))
    (D16i : Hid (∀ a c w, RdM w a n T L → Calls Tryz.prog 16 #[.slice a n c, .agg #[.int .i64 (lo % 100001), .int .i64 1]] w (RetRE tn td 0 w)))
    (D17 : Hid (∀ a a' c c' w, RdM w a n L T → RdM w a' n L T → Calls Tryz.prog 17 #[.slice a n c, .slice a' n c'] w (RetB true w)))
    (D18a : Hid (∀ a a' c c' w, RdM w a n L T → RdM w a' n' L' T' → Calls Tryz.prog 18 #[.slice a n c, .slice a' n' c'] w (RetBE false 0 w)))
    (D18b : Hid (∀ a a' c c' w, RdM w a n L T → RdM w a' n' L' T' → Calls Tryz.prog 18 #[.slice a' n' c', .slice a n c] w (RetBE false 0 w)))
    (D19a : Hid (∀ a a' c c' w, RdM w a n L T → RdM w a' n' L' T' → Calls Tryz.prog 19 #[.slice a n c, .slice a' n' c', .int .i64 (lo % 100001), .int .i64 (min (lo % 100001 + sp) 100000)] w (RetIRE m1 0 q1 0 w)))
    (D19b : Hid (∀ a a' c c' w, RdM w a n L T → RdM w a' m kl kt → Calls Tryz.prog 19 #[.slice a n c, .slice a' m c', .int .i64 (lo % 100001), .int .i64 (min (lo % 100001 + sp) 100000)] w (RetIRE m2 0 q2 0 w)))
    (n1 : ¬ (nr : Int) > 200) (l0 : 0 ≤ lo) (l1 : lo ≤ 4294967295) (s0 : 0 ≤ sp) (s1 : sp ≤ 255) :
    Calls Tryz.prog 3 #[.int .i64 b, .slice a1 nr c1, .slice a2 n c2, .slice a3 n' c3, .int .u32 lo, .int .u8 sp] w (RetB true w) := by
  have x0 : 0 ≤ lo % 100001 := by omega
  have x1 : lo % 100001 ≤ 100000 := by omega
  have v1 : IntKind.i64.wrap lo = lo := IntWalk.i64_in _ (by omega)
  have v2 : IntKind.i64.wrap sp = sp := IntWalk.i64_in _ (by omega)
  have v3 : IntKind.i64.wrap (lo % 100001 + sp) = lo % 100001 + sp := IntWalk.i64_in _ (by omega)
  go_enter Tryz.func3, Tryz.ntmps3
  go_wp2_with (first
    | (go_at_call 4; (with_reducible refine (DL1.out _).mono ?_); rintro e u1 ⟨rfl, rfl⟩)
    | (go_at_call 4; (with_reducible refine (DL2.out _).mono ?_); rintro e u2 ⟨rfl, rfl⟩)
    | (go_at_call 6; (with_reducible refine (D6.out _ _ _ HF.out).mono ?_); rintro e w1 ⟨a6, c6, rfl, _, _, r6, g1⟩; have G1 := Lib.hid g1; have R6 := Lib.hid r6; clear g1 r6)
    | (go_at_call 7; (with_reducible refine (D7.out _ G1.out).mono ?_); rintro e u3 ⟨rfl, rfl⟩)
    | (go_at_call 8; (with_reducible refine (D8.out _ _ _ R6.out).mono ?_); rintro e w2 ⟨a8, c8, rfl, _, _, r8, g2⟩; have G2 := Lib.hid (G1.out.trans g2); have R6b := Lib.hid (R6.out.gr g2); have R8 := Lib.hid r8; clear g2 r8)
    | (go_at_call 6; (with_reducible refine (D6.out _ _ _ R8.out).mono ?_); rintro e w3 ⟨a7, c7, rfl, _, _, r7, g3⟩; have G3 := Lib.hid (G2.out.trans g3); have R6c := Lib.hid (R6b.out.gr g3); have R8c := Lib.hid (R8.out.gr g3); have R7 := Lib.hid r7; clear g3 r7)
    | (go_at_call 9; (with_reducible refine (D9.out _ _ _ _ f _ R8c.out (HF.out.gr G3.out)).mono ?_); rintro e w4 ⟨rfl, g4⟩; have G4 := Lib.hid (G3.out.trans g4); have R6d := Lib.hid (R6c.out.gr g4); have R7d := Lib.hid (R7.out.gr g4); clear g4)
    | (go_at_call 9; (with_reducible refine (D9.out _ _ _ _ F _ R7d.out R6d.out).mono ?_); rintro e w5 ⟨rfl, g5⟩; have G5 := Lib.hid (G4.out.trans g5); clear g5)
    | (go_at_call 10; (with_reducible refine (D10c.out _ G5.out).mono ?_); rintro e w6 ⟨rfl, g6⟩; have G6 := Lib.hid (G5.out.trans g6); clear g6)
    | (go_at_call 10; (with_reducible refine (D10d.out _ G6.out).mono ?_); rintro e w7 ⟨rfl, g7⟩; have G7 := Lib.hid (G6.out.trans g7); clear g7)
    | (go_at_call 11; (with_reducible refine (D11.out _ _ _ (HC.out.gr G7.out)).mono ?_); rintro e w8 ⟨az, cz, rfl, _, _, rs, g8⟩; have G8 := Lib.hid (G7.out.trans g8); have RS8 := Lib.hid rs; clear g8 rs)
    | (go_at_call 12; (with_reducible refine (D12.out _ _ _ (HC.out.gr G8.out)).mono ?_); rintro e w9 ⟨ai, ci, rfl, _, _, ri, g9⟩; have G9 := Lib.hid (G8.out.trans g9); have RS9 := Lib.hid (RS8.out.gr g9); have RI9 := Lib.hid ri; clear g9 ri)
    | (go_at_call 13; (with_reducible refine (D13.out _ G9.out).mono ?_); rintro e w10 ⟨rfl, g10⟩; have G10 := Lib.hid (G9.out.trans g10); have RS10 := Lib.hid (RS9.out.gr g10); have RI10 := Lib.hid (RI9.out.gr g10); clear g10)
    | (go_at_call 14; (with_reducible refine (D14.out _ _ _ (HC.out.gr G10.out)).mono ?_); rintro e w11 ⟨rfl, g11⟩; have G11 := Lib.hid ((G10.out.trans g11).alloc (.cells #[.int .i64 tn, .int .i64 td] 37)); have RS11 := Lib.hid ((RS10.out.gr g11).gr ((Gr.refl w11).alloc (.cells #[.int .i64 tn, .int .i64 td] 37))); have RI11 := Lib.hid ((RI10.out.gr g11).gr ((Gr.refl w11).alloc (.cells #[.int .i64 tn, .int .i64 td] 37))); clear g11)
    | (go_at_call 15; (with_reducible refine (D15.out _ G11.out).mono ?_); rintro e w12 ⟨ap, cp, rfl, _, _, rp, g12⟩; have G12 := Lib.hid (G11.out.trans g12); have RS12 := Lib.hid (RS11.out.gr g12); have RI12 := Lib.hid (RI11.out.gr g12); have RP12 := Lib.hid rp; have Z12 := Lib.hid (And.intro (g12.cell (box_ii w11 tn td 37).1) (g12.cell (box_ii w11 tn td 37).2)); clear g12 rp)
    | (go_at_call 14; (with_reducible refine (D14s.out _ _ _ RS12.out).mono ?_); rintro e w13 ⟨rfl, g13⟩; have gb := g13.trans ((Gr.refl w13).alloc (.cells #[.int .i64 tn, .int .i64 td] 37)); have G13 := Lib.hid (G12.out.trans gb); have RS13 := Lib.hid (RS12.out.gr gb); have RI13 := Lib.hid (RI12.out.gr gb); have RP13 := Lib.hid (RP12.out.gr gb); have y25a := gb.cell Z12.out.1; have y25b := gb.cell Z12.out.2; have Z13 := Lib.hid (And.intro y25a y25b); clear g13 gb)
    | (go_at_call 16; (with_reducible refine (D16s.out _ _ _ RS13.out).mono ?_); rintro e w14 ⟨rfl, g14⟩; have gb := g14.trans ((Gr.refl w14).alloc (.cells #[.int .i64 (lo % 100001), .int .i64 1] 37)); have G14 := Lib.hid (G13.out.trans gb); have RS14 := Lib.hid (RS13.out.gr gb); have RI14 := Lib.hid (RI13.out.gr gb); have RP14 := Lib.hid (RP13.out.gr gb); have Z14 := Lib.hid (And.intro (gb.cell Z13.out.1) (gb.cell Z13.out.2)); have Q14 := Lib.hid (And.intro (gb.cell (box_ii w13 tn td 37).1) (gb.cell (box_ii w13 tn td 37).2)); clear g14 gb y25a y25b)
    | (go_at_call 16; (with_reducible refine (D16i.out _ _ _ RI14.out).mono ?_); rintro e w15 ⟨rfl, g15⟩; have gb := g15.trans ((Gr.refl w15).alloc (.cells #[.int .i64 tn, .int .i64 td] 37)); have G15 := Lib.hid (G14.out.trans gb); have RS15 := Lib.hid (RS14.out.gr gb); have RP15 := Lib.hid (RP14.out.gr gb); have Z15 := Lib.hid (And.intro (gb.cell Z14.out.1) (gb.cell Z14.out.2)); have Q15 := Lib.hid (And.intro (gb.cell Q14.out.1) (gb.cell Q14.out.2)); have P15 := Lib.hid (And.intro (gb.cell (box_ii w14 (lo % 100001) 1 37).1) (gb.cell (box_ii w14 (lo % 100001) 1 37).2)); clear g15 gb)
    | (go_at_call 17; (with_reducible refine (D17.out _ _ _ _ _ RP15.out (HC.out.gr G15.out)).mono ?_); rintro e w16 ⟨rfl, g16⟩; have G16 := Lib.hid (G15.out.trans g16); have RS16 := Lib.hid (RS15.out.gr g16); have z25a := g16.cell Z15.out.1; have z25b := g16.cell Z15.out.2; have z28a := g16.cell Q15.out.1; have z28b := g16.cell Q15.out.2; have z29a := g16.cell P15.out.1; have z29b := g16.cell P15.out.2; have z30a := g16.cell (box_ii w15 tn td 37).1; have z30b := g16.cell (box_ii w15 tn td 37).2; have Z16 := Lib.hid (And.intro z25a z25b); clear g16)
    | (go_at_call 18; (with_reducible refine (D18a.out _ _ _ _ _ (HC.out.gr G16.out) (HD.out.gr G16.out)).mono ?_); rintro e w17 ⟨rfl, g17⟩; have G17 := Lib.hid (G16.out.trans g17); have RS17 := Lib.hid (RS16.out.gr g17); have Z17 := Lib.hid (And.intro (g17.cell Z16.out.1) (g17.cell Z16.out.2)); clear g17 z25a z25b z28a z28b z29a z29b z30a z30b)
    | (go_at_call 18; (with_reducible refine (D18b.out _ _ _ _ _ (HC.out.gr G17.out) (HD.out.gr G17.out)).mono ?_); rintro e w18 ⟨rfl, g18⟩; have G18 := Lib.hid (G17.out.trans g18); have RS18 := Lib.hid (RS17.out.gr g18); have Z18 := Lib.hid (And.intro (g18.cell Z17.out.1) (g18.cell Z17.out.2)); clear g18)
    | (go_at_call 19; (with_reducible refine (D19a.out _ _ _ _ _ (HC.out.gr G18.out) (HD.out.gr G18.out)).mono ?_); rintro e w19 ⟨rfl, g19⟩; have gb := g19.trans ((Gr.refl w19).alloc (.cells #[.int .i64 0, .int .i64 q1] 37)); have G19 := Lib.hid (G18.out.trans gb); have RS19 := Lib.hid (RS18.out.gr gb); have Z19 := Lib.hid (And.intro (gb.cell Z18.out.1) (gb.cell Z18.out.2)); clear g19 gb)
    | (go_at_call 19; (with_reducible refine (D19b.out _ _ _ _ _ (HC.out.gr G19.out) RS19.out).mono ?_); rintro e w20 ⟨rfl, g20⟩; have gb := g20.trans ((Gr.refl w20).alloc (.cells #[.int .i64 0, .int .i64 q2] 37)); have G20 := Lib.hid (G19.out.trans gb); have Z20 := Lib.hid (And.intro (gb.cell Z19.out.1) (gb.cell Z19.out.2)); have z35 := gb.cell (box_ii w19 0 q1 37).1; have z37 := (box_ii w20 0 q2 37).1; have U20 := Lib.hid z35; clear g20 gb)
    | (go_at_call 14; (with_reducible refine (D14d.out _ _ _ (HD.out.gr G20.out)).mono ?_); rintro e w21 ⟨rfl, g21⟩; have gb := g21.trans ((Gr.refl w21).alloc (.cells #[.int .i64 tn, .int .i64 td] 37)); have G21 := Lib.hid (G20.out.trans gb); have t25a := gb.cell Z20.out.1; have t25b := gb.cell Z20.out.2; have t35 := gb.cell U20.out; have t38a := (box_ii w21 tn td 37).1; have t38b := (box_ii w21 tn td 37).2; clear g21 gb z35 z37)
    | (go_at_call 5; refine (Awake_any _).mono ?_; rintro e w22 ⟨rfl, g22⟩; have G22 := Lib.hid (G21.out.trans g22); clear g22))
  go_ret
  exact ⟨rfl, G22.out⟩

set_option maxHeartbeats 32000000 in
set_option maxRecDepth 100000 in
theorem walk_tFN (b lo sp : Int) (a1 a2 a3 : Option Addr) (nr c1 n c2 n' c3 m : Nat) (f F L T L' T' kl kt : Nat → Int) (S : ByteArray) (w : World) {tn td on od p m1 q1 m2 q2 : Int}
    (DL1 : Hid (∀ wx, Calls Tryz.prog 4 #[.slice a2 n c2] wx fun e w' => e = .returned (.bool false) ∧ wx = w'))
    (DL2 : Hid (∀ wx, Calls Tryz.prog 4 #[.slice a3 n' c3] wx fun e w' => e = .returned (.bool false) ∧ wx = w'))
    (D6 : Hid (∀ a c w, RdI w a nr f → Calls Tryz.prog 6 #[.int .i64 b, .slice a nr c] w (RetIs nr F 0 w)))
    (D8 : Hid (∀ a c w, RdI w a nr F → Calls Tryz.prog 8 #[.int .i64 b, .slice a nr c] w (RetIs nr f 0 w)))
    (D9 : Hid (∀ a c a' c' (g : Nat → Int) w, RdI w a nr g → RdI w a' nr g → Calls Tryz.prog 9 #[.slice a nr c, .slice a' nr c'] w (RetB true w)))
    (HF : Hid (RdI w a1 nr f))
    (D7 : Hid (∀ wx, Gr w wx → Calls Tryz.prog 7 #[.int .i64 b, .slice a1 nr c1] wx fun e w' => e = .returned (.bool true) ∧ wx = w'))
    (D10c : Hid (∀ wx, Gr w wx → Calls Tryz.prog 10 #[.slice a2 n c2] wx (RetB true wx)))
    (D10d : Hid (∀ wx, Gr w wx → Calls Tryz.prog 10 #[.slice a3 n' c3] wx (RetB true wx)))
    (HC : Hid (RdM w a2 n L T)) (HD : Hid (RdM w a3 n' L' T'))
    (D11 : Hid (∀ a c w, RdM w a n L T → Calls Tryz.prog 11 #[.slice a n c] w (RetMf m kl kt 0 w)))
    (D12 : Hid (∀ a c w, RdM w a n L T → Calls Tryz.prog 12 #[.slice a n c] w (RetMf n T L 0 w)))
    (D13 : Hid (∀ wx, Gr w wx → Calls Tryz.prog 13 #[.slice a2 n c2] wx (RetTE S 0 wx)))
    (D14 : Hid (∀ a c w, RdM w a n L T → Calls Tryz.prog 14 #[.slice a n c, .int .i64 (lo % 100001)] w (RetRE tn td 0 w)))
    (D14s : Hid (∀ a c w, RdM w a m kl kt → Calls Tryz.prog 14 #[.slice a m c, .int .i64 (lo % 100001)] w (RetRE tn td 0 w)))
    (D14d : Hid (∀ a c w, RdM w a n' L' T' → Calls Tryz.prog 14 #[.slice a n' c, .int .i64 (lo % 100001)] w (RetRE on od 0 w)))
    (D15 : Hid (∀ wx, Gr w wx → Calls Tryz.prog 15 #[.string S] wx (RetMf n L T 0 wx)))
    (D16s : Hid (∀ a c w, RdM w a m kl kt → Calls Tryz.prog 16 #[.slice a m c, .agg #[.int .i64 tn, .int .i64 td]] w (RetRE (lo % 100001) 1 0 w)))
    (D16i : Hid (∀ a c w, RdM w a n T L → Calls Tryz.prog 16 #[.slice a n c, .agg #[.int .i64 (lo % 100001), .int .i64 1]] w (RetRE tn td 0 w)))
    (D17 : Hid (∀ a a' c c' w, RdM w a n L T → RdM w a' n L T → Calls Tryz.prog 17 #[.slice a n c, .slice a' n c'] w (RetB true w)))
    (D18a : Hid (∀ a a' c c' w, RdM w a n L T → RdM w a' n' L' T' → Calls Tryz.prog 18 #[.slice a n c, .slice a' n' c'] w (RetBE false 0 w)))
    (D18b : Hid (∀ a a' c c' w, RdM w a n L T → RdM w a' n' L' T' → Calls Tryz.prog 18 #[.slice a' n' c', .slice a n c] w (RetBE false 0 w)))
    (D19a : Hid (∀ a a' c c' w, RdM w a n L T → RdM w a' n' L' T' → Calls Tryz.prog 19 #[.slice a n c, .slice a' n' c', .int .i64 (lo % 100001), .int .i64 (min (lo % 100001 + sp) 100000)] w (RetIRE m1 p q1 0 w)))
    (D19b : Hid (∀ a a' c c' w, RdM w a n L T → RdM w a' m kl kt → Calls Tryz.prog 19 #[.slice a n c, .slice a' m c', .int .i64 (lo % 100001), .int .i64 (min (lo % 100001 + sp) 100000)] w (RetIRE m2 0 q2 0 w)))
    (_np : ¬ p = 0) (np2 : (p != 0) = true)
    (n1 : ¬ (nr : Int) > 200) (l0 : 0 ≤ lo) (l1 : lo ≤ 4294967295) (s0 : 0 ≤ sp) (s1 : sp ≤ 255) :
    Calls Tryz.prog 3 #[.int .i64 b, .slice a1 nr c1, .slice a2 n c2, .slice a3 n' c3, .int .u32 lo, .int .u8 sp] w (RetB true w) := by
  have x0 : 0 ≤ lo % 100001 := by omega
  have x1 : lo % 100001 ≤ 100000 := by omega
  have v1 : IntKind.i64.wrap lo = lo := IntWalk.i64_in _ (by omega)
  have v2 : IntKind.i64.wrap sp = sp := IntWalk.i64_in _ (by omega)
  have v3 : IntKind.i64.wrap (lo % 100001 + sp) = lo % 100001 + sp := IntWalk.i64_in _ (by omega)
  go_enter Tryz.func3, Tryz.ntmps3
  go_wp2_with (first
    | (go_at_call 4; (with_reducible refine (DL1.out _).mono ?_); rintro e u1 ⟨rfl, rfl⟩)
    | (go_at_call 4; (with_reducible refine (DL2.out _).mono ?_); rintro e u2 ⟨rfl, rfl⟩)
    | (go_at_call 6; (with_reducible refine (D6.out _ _ _ HF.out).mono ?_); rintro e w1 ⟨a6, c6, rfl, _, _, r6, g1⟩; have G1 := Lib.hid g1; have R6 := Lib.hid r6; clear g1 r6)
    | (go_at_call 7; (with_reducible refine (D7.out _ G1.out).mono ?_); rintro e u3 ⟨rfl, rfl⟩)
    | (go_at_call 8; (with_reducible refine (D8.out _ _ _ R6.out).mono ?_); rintro e w2 ⟨a8, c8, rfl, _, _, r8, g2⟩; have G2 := Lib.hid (G1.out.trans g2); have R6b := Lib.hid (R6.out.gr g2); have R8 := Lib.hid r8; clear g2 r8)
    | (go_at_call 6; (with_reducible refine (D6.out _ _ _ R8.out).mono ?_); rintro e w3 ⟨a7, c7, rfl, _, _, r7, g3⟩; have G3 := Lib.hid (G2.out.trans g3); have R6c := Lib.hid (R6b.out.gr g3); have R8c := Lib.hid (R8.out.gr g3); have R7 := Lib.hid r7; clear g3 r7)
    | (go_at_call 9; (with_reducible refine (D9.out _ _ _ _ f _ R8c.out (HF.out.gr G3.out)).mono ?_); rintro e w4 ⟨rfl, g4⟩; have G4 := Lib.hid (G3.out.trans g4); have R6d := Lib.hid (R6c.out.gr g4); have R7d := Lib.hid (R7.out.gr g4); clear g4)
    | (go_at_call 9; (with_reducible refine (D9.out _ _ _ _ F _ R7d.out R6d.out).mono ?_); rintro e w5 ⟨rfl, g5⟩; have G5 := Lib.hid (G4.out.trans g5); clear g5)
    | (go_at_call 10; (with_reducible refine (D10c.out _ G5.out).mono ?_); rintro e w6 ⟨rfl, g6⟩; have G6 := Lib.hid (G5.out.trans g6); clear g6)
    | (go_at_call 10; (with_reducible refine (D10d.out _ G6.out).mono ?_); rintro e w7 ⟨rfl, g7⟩; have G7 := Lib.hid (G6.out.trans g7); clear g7)
    | (go_at_call 11; (with_reducible refine (D11.out _ _ _ (HC.out.gr G7.out)).mono ?_); rintro e w8 ⟨az, cz, rfl, _, _, rs, g8⟩; have G8 := Lib.hid (G7.out.trans g8); have RS8 := Lib.hid rs; clear g8 rs)
    | (go_at_call 12; (with_reducible refine (D12.out _ _ _ (HC.out.gr G8.out)).mono ?_); rintro e w9 ⟨ai, ci, rfl, _, _, ri, g9⟩; have G9 := Lib.hid (G8.out.trans g9); have RS9 := Lib.hid (RS8.out.gr g9); have RI9 := Lib.hid ri; clear g9 ri)
    | (go_at_call 13; (with_reducible refine (D13.out _ G9.out).mono ?_); rintro e w10 ⟨rfl, g10⟩; have G10 := Lib.hid (G9.out.trans g10); have RS10 := Lib.hid (RS9.out.gr g10); have RI10 := Lib.hid (RI9.out.gr g10); clear g10)
    | (go_at_call 14; (with_reducible refine (D14.out _ _ _ (HC.out.gr G10.out)).mono ?_); rintro e w11 ⟨rfl, g11⟩; have G11 := Lib.hid ((G10.out.trans g11).alloc (.cells #[.int .i64 tn, .int .i64 td] 37)); have RS11 := Lib.hid ((RS10.out.gr g11).gr ((Gr.refl w11).alloc (.cells #[.int .i64 tn, .int .i64 td] 37))); have RI11 := Lib.hid ((RI10.out.gr g11).gr ((Gr.refl w11).alloc (.cells #[.int .i64 tn, .int .i64 td] 37))); clear g11)
    | (go_at_call 15; (with_reducible refine (D15.out _ G11.out).mono ?_); rintro e w12 ⟨ap, cp, rfl, _, _, rp, g12⟩; have G12 := Lib.hid (G11.out.trans g12); have RS12 := Lib.hid (RS11.out.gr g12); have RI12 := Lib.hid (RI11.out.gr g12); have RP12 := Lib.hid rp; have Z12 := Lib.hid (And.intro (g12.cell (box_ii w11 tn td 37).1) (g12.cell (box_ii w11 tn td 37).2)); clear g12 rp)
    | (go_at_call 14; (with_reducible refine (D14s.out _ _ _ RS12.out).mono ?_); rintro e w13 ⟨rfl, g13⟩; have gb := g13.trans ((Gr.refl w13).alloc (.cells #[.int .i64 tn, .int .i64 td] 37)); have G13 := Lib.hid (G12.out.trans gb); have RS13 := Lib.hid (RS12.out.gr gb); have RI13 := Lib.hid (RI12.out.gr gb); have RP13 := Lib.hid (RP12.out.gr gb); have y25a := gb.cell Z12.out.1; have y25b := gb.cell Z12.out.2; have Z13 := Lib.hid (And.intro y25a y25b); clear g13 gb)
    | (go_at_call 16; (with_reducible refine (D16s.out _ _ _ RS13.out).mono ?_); rintro e w14 ⟨rfl, g14⟩; have gb := g14.trans ((Gr.refl w14).alloc (.cells #[.int .i64 (lo % 100001), .int .i64 1] 37)); have G14 := Lib.hid (G13.out.trans gb); have RS14 := Lib.hid (RS13.out.gr gb); have RI14 := Lib.hid (RI13.out.gr gb); have RP14 := Lib.hid (RP13.out.gr gb); have Z14 := Lib.hid (And.intro (gb.cell Z13.out.1) (gb.cell Z13.out.2)); have Q14 := Lib.hid (And.intro (gb.cell (box_ii w13 tn td 37).1) (gb.cell (box_ii w13 tn td 37).2)); clear g14 gb y25a y25b)
    | (go_at_call 16; (with_reducible refine (D16i.out _ _ _ RI14.out).mono ?_); rintro e w15 ⟨rfl, g15⟩; have gb := g15.trans ((Gr.refl w15).alloc (.cells #[.int .i64 tn, .int .i64 td] 37)); have G15 := Lib.hid (G14.out.trans gb); have RS15 := Lib.hid (RS14.out.gr gb); have RP15 := Lib.hid (RP14.out.gr gb); have Z15 := Lib.hid (And.intro (gb.cell Z14.out.1) (gb.cell Z14.out.2)); have Q15 := Lib.hid (And.intro (gb.cell Q14.out.1) (gb.cell Q14.out.2)); have P15 := Lib.hid (And.intro (gb.cell (box_ii w14 (lo % 100001) 1 37).1) (gb.cell (box_ii w14 (lo % 100001) 1 37).2)); clear g15 gb)
    | (go_at_call 17; (with_reducible refine (D17.out _ _ _ _ _ RP15.out (HC.out.gr G15.out)).mono ?_); rintro e w16 ⟨rfl, g16⟩; have G16 := Lib.hid (G15.out.trans g16); have RS16 := Lib.hid (RS15.out.gr g16); have z25a := g16.cell Z15.out.1; have z25b := g16.cell Z15.out.2; have z28a := g16.cell Q15.out.1; have z28b := g16.cell Q15.out.2; have z29a := g16.cell P15.out.1; have z29b := g16.cell P15.out.2; have z30a := g16.cell (box_ii w15 tn td 37).1; have z30b := g16.cell (box_ii w15 tn td 37).2; have Z16 := Lib.hid (And.intro z25a z25b); clear g16)
    | (go_at_call 18; (with_reducible refine (D18a.out _ _ _ _ _ (HC.out.gr G16.out) (HD.out.gr G16.out)).mono ?_); rintro e w17 ⟨rfl, g17⟩; have G17 := Lib.hid (G16.out.trans g17); have RS17 := Lib.hid (RS16.out.gr g17); have Z17 := Lib.hid (And.intro (g17.cell Z16.out.1) (g17.cell Z16.out.2)); clear g17 z25a z25b z28a z28b z29a z29b z30a z30b)
    | (go_at_call 18; (with_reducible refine (D18b.out _ _ _ _ _ (HC.out.gr G17.out) (HD.out.gr G17.out)).mono ?_); rintro e w18 ⟨rfl, g18⟩; have G18 := Lib.hid (G17.out.trans g18); have RS18 := Lib.hid (RS17.out.gr g18); have Z18 := Lib.hid (And.intro (g18.cell Z17.out.1) (g18.cell Z17.out.2)); clear g18)
    | (go_at_call 19; (with_reducible refine (D19a.out _ _ _ _ _ (HC.out.gr G18.out) (HD.out.gr G18.out)).mono ?_); rintro e w19 ⟨rfl, g19⟩; have gb := g19.trans ((Gr.refl w19).alloc (.cells #[.int .i64 p, .int .i64 q1] 37)); have G19 := Lib.hid (G18.out.trans gb); have RS19 := Lib.hid (RS18.out.gr gb); have Z19 := Lib.hid (And.intro (gb.cell Z18.out.1) (gb.cell Z18.out.2)); clear g19 gb)
    | (go_at_call 19; (with_reducible refine (D19b.out _ _ _ _ _ (HC.out.gr G19.out) RS19.out).mono ?_); rintro e w20 ⟨rfl, g20⟩; have gb := g20.trans ((Gr.refl w20).alloc (.cells #[.int .i64 0, .int .i64 q2] 37)); have G20 := Lib.hid (G19.out.trans gb); have Z20 := Lib.hid (And.intro (gb.cell Z19.out.1) (gb.cell Z19.out.2)); have z35 := gb.cell (box_ii w19 p q1 37).1; have z37 := (box_ii w20 0 q2 37).1; have U20 := Lib.hid z35; clear g20 gb)
    | (go_at_call 14; (with_reducible refine (D14d.out _ _ _ (HD.out.gr G20.out)).mono ?_); rintro e w21 ⟨rfl, g21⟩; have gb := g21.trans ((Gr.refl w21).alloc (.cells #[.int .i64 on, .int .i64 od] 37)); have G21 := Lib.hid (G20.out.trans gb); have t25a := gb.cell Z20.out.1; have t25b := gb.cell Z20.out.2; have t35 := gb.cell U20.out; have t38a := (box_ii w21 on od 37).1; have t38b := (box_ii w21 on od 37).2; clear g21 gb z35 z37)
    | (go_at_call 5; refine (Awake_any _).mono ?_; rintro e w22 ⟨rfl, g22⟩; have G22 := Lib.hid (G21.out.trans g22); clear g22))
  go_ret
  exact ⟨rfl, G22.out⟩

set_option maxHeartbeats 32000000 in
set_option maxRecDepth 100000 in
theorem walk_fT0 (b lo sp : Int) (a1 a2 a3 : Option Addr) (nr c1 n c2 n' c3 m : Nat) (F L T L' T' kl kt : Nat → Int) (S : ByteArray) (w : World) {tn td m1 q1 m2 q2 : Int} {E : Int}
    (DL1 : Hid (∀ wx, Calls Tryz.prog 4 #[.slice a2 n c2] wx fun e w' => e = .returned (.bool false) ∧ wx = w'))
    (DL2 : Hid (∀ wx, Calls Tryz.prog 4 #[.slice a3 n' c3] wx fun e w' => e = .returned (.bool false) ∧ wx = w'))
    (D6 : Hid (∀ wx, Gr w wx → Calls Tryz.prog 6 #[.int .i64 b, .slice a1 nr c1] wx (RetIs 0 F E wx)))
    (_hE : ¬ E = 0) (hE2 : (E == 0) = false)
    (D7 : Hid (∀ wx, Gr w wx → Calls Tryz.prog 7 #[.int .i64 b, .slice a1 nr c1] wx fun e w' => e = .returned (.bool false) ∧ wx = w'))
    (D10c : Hid (∀ wx, Gr w wx → Calls Tryz.prog 10 #[.slice a2 n c2] wx (RetB true wx)))
    (D10d : Hid (∀ wx, Gr w wx → Calls Tryz.prog 10 #[.slice a3 n' c3] wx (RetB true wx)))
    (HC : Hid (RdM w a2 n L T)) (HD : Hid (RdM w a3 n' L' T'))
    (D11 : Hid (∀ a c w, RdM w a n L T → Calls Tryz.prog 11 #[.slice a n c] w (RetMf m kl kt 0 w)))
    (D12 : Hid (∀ a c w, RdM w a n L T → Calls Tryz.prog 12 #[.slice a n c] w (RetMf n T L 0 w)))
    (D13 : Hid (∀ wx, Gr w wx → Calls Tryz.prog 13 #[.slice a2 n c2] wx (RetTE S 0 wx)))
    (D14 : Hid (∀ a c w, RdM w a n L T → Calls Tryz.prog 14 #[.slice a n c, .int .i64 (lo % 100001)] w (RetRE tn td 0 w)))
    (D14s : Hid (∀ a c w, RdM w a m kl kt → Calls Tryz.prog 14 #[.slice a m c, .int .i64 (lo % 100001)] w (RetRE tn td 0 w)))
    (D14d : Hid (∀ a c w, RdM w a n' L' T' → Calls Tryz.prog 14 #[.slice a n' c, .int .i64 (lo % 100001)] w (RetRE tn td 0 w)))
    (D15 : Hid (∀ wx, Gr w wx → Calls Tryz.prog 15 #[.string S] wx (RetMf n L T 0 wx)))
    (D16s : Hid (∀ a c w, RdM w a m kl kt → Calls Tryz.prog 16 #[.slice a m c, .agg #[.int .i64 tn, .int .i64 td]] w (RetRE (lo % 100001) 1 0 w)))
    (D16i : Hid (∀ a c w, RdM w a n T L → Calls Tryz.prog 16 #[.slice a n c, .agg #[.int .i64 (lo % 100001), .int .i64 1]] w (RetRE tn td 0 w)))
    (D17 : Hid (∀ a a' c c' w, RdM w a n L T → RdM w a' n L T → Calls Tryz.prog 17 #[.slice a n c, .slice a' n c'] w (RetB true w)))
    (D18a : Hid (∀ a a' c c' w, RdM w a n L T → RdM w a' n' L' T' → Calls Tryz.prog 18 #[.slice a n c, .slice a' n' c'] w (RetBE true 0 w)))
    (D18b : Hid (∀ a a' c c' w, RdM w a n L T → RdM w a' n' L' T' → Calls Tryz.prog 18 #[.slice a' n' c', .slice a n c] w (RetBE true 0 w)))
    (D19a : Hid (∀ a a' c c' w, RdM w a n L T → RdM w a' n' L' T' → Calls Tryz.prog 19 #[.slice a n c, .slice a' n' c', .int .i64 (lo % 100001), .int .i64 (min (lo % 100001 + sp) 100000)] w (RetIRE m1 0 q1 0 w)))
    (D19b : Hid (∀ a a' c c' w, RdM w a n L T → RdM w a' m kl kt → Calls Tryz.prog 19 #[.slice a n c, .slice a' m c', .int .i64 (lo % 100001), .int .i64 (min (lo % 100001 + sp) 100000)] w (RetIRE m2 0 q2 0 w)))
    (n1 : ¬ (nr : Int) > 200) (l0 : 0 ≤ lo) (l1 : lo ≤ 4294967295) (s0 : 0 ≤ sp) (s1 : sp ≤ 255) :
    Calls Tryz.prog 3 #[.int .i64 b, .slice a1 nr c1, .slice a2 n c2, .slice a3 n' c3, .int .u32 lo, .int .u8 sp] w (RetB true w) := by
  have x0 : 0 ≤ lo % 100001 := by omega
  have x1 : lo % 100001 ≤ 100000 := by omega
  have v1 : IntKind.i64.wrap lo = lo := IntWalk.i64_in _ (by omega)
  have v2 : IntKind.i64.wrap sp = sp := IntWalk.i64_in _ (by omega)
  have v3 : IntKind.i64.wrap (lo % 100001 + sp) = lo % 100001 + sp := IntWalk.i64_in _ (by omega)
  go_enter Tryz.func3, Tryz.ntmps3
  go_wp2_with (first
    | (go_at_call 4; (with_reducible refine (DL1.out _).mono ?_); rintro e u1 ⟨rfl, rfl⟩)
    | (go_at_call 4; (with_reducible refine (DL2.out _).mono ?_); rintro e u2 ⟨rfl, rfl⟩)
    | (go_at_call 6; (with_reducible refine (D6.out _ (Gr.refl _)).mono ?_); rintro e w5 ⟨a6, c6, rfl, _, _, _, g1⟩; have G5 := Lib.hid g1; clear g1)
    | (go_at_call 7; (with_reducible refine (D7.out _ G5.out).mono ?_); rintro e u3 ⟨rfl, rfl⟩)
    | (go_at_call 10; (with_reducible refine (D10c.out _ G5.out).mono ?_); rintro e w6 ⟨rfl, g6⟩; have G6 := Lib.hid (G5.out.trans g6); clear g6)
    | (go_at_call 10; (with_reducible refine (D10d.out _ G6.out).mono ?_); rintro e w7 ⟨rfl, g7⟩; have G7 := Lib.hid (G6.out.trans g7); clear g7)
    | (go_at_call 11; (with_reducible refine (D11.out _ _ _ (HC.out.gr G7.out)).mono ?_); rintro e w8 ⟨az, cz, rfl, _, _, rs, g8⟩; have G8 := Lib.hid (G7.out.trans g8); have RS8 := Lib.hid rs; clear g8 rs)
    | (go_at_call 12; (with_reducible refine (D12.out _ _ _ (HC.out.gr G8.out)).mono ?_); rintro e w9 ⟨ai, ci, rfl, _, _, ri, g9⟩; have G9 := Lib.hid (G8.out.trans g9); have RS9 := Lib.hid (RS8.out.gr g9); have RI9 := Lib.hid ri; clear g9 ri)
    | (go_at_call 13; (with_reducible refine (D13.out _ G9.out).mono ?_); rintro e w10 ⟨rfl, g10⟩; have G10 := Lib.hid (G9.out.trans g10); have RS10 := Lib.hid (RS9.out.gr g10); have RI10 := Lib.hid (RI9.out.gr g10); clear g10)
    | (go_at_call 14; (with_reducible refine (D14.out _ _ _ (HC.out.gr G10.out)).mono ?_); rintro e w11 ⟨rfl, g11⟩; have G11 := Lib.hid ((G10.out.trans g11).alloc (.cells #[.int .i64 tn, .int .i64 td] 37)); have RS11 := Lib.hid ((RS10.out.gr g11).gr ((Gr.refl w11).alloc (.cells #[.int .i64 tn, .int .i64 td] 37))); have RI11 := Lib.hid ((RI10.out.gr g11).gr ((Gr.refl w11).alloc (.cells #[.int .i64 tn, .int .i64 td] 37))); clear g11)
    | (go_at_call 15; (with_reducible refine (D15.out _ G11.out).mono ?_); rintro e w12 ⟨ap, cp, rfl, _, _, rp, g12⟩; have G12 := Lib.hid (G11.out.trans g12); have RS12 := Lib.hid (RS11.out.gr g12); have RI12 := Lib.hid (RI11.out.gr g12); have RP12 := Lib.hid rp; have Z12 := Lib.hid (And.intro (g12.cell (box_ii w11 tn td 37).1) (g12.cell (box_ii w11 tn td 37).2)); clear g12 rp)
    | (go_at_call 14; (with_reducible refine (D14s.out _ _ _ RS12.out).mono ?_); rintro e w13 ⟨rfl, g13⟩; have gb := g13.trans ((Gr.refl w13).alloc (.cells #[.int .i64 tn, .int .i64 td] 37)); have G13 := Lib.hid (G12.out.trans gb); have RS13 := Lib.hid (RS12.out.gr gb); have RI13 := Lib.hid (RI12.out.gr gb); have RP13 := Lib.hid (RP12.out.gr gb); have y25a := gb.cell Z12.out.1; have y25b := gb.cell Z12.out.2; have Z13 := Lib.hid (And.intro y25a y25b); clear g13 gb)
    | (go_at_call 16; (with_reducible refine (D16s.out _ _ _ RS13.out).mono ?_); rintro e w14 ⟨rfl, g14⟩; have gb := g14.trans ((Gr.refl w14).alloc (.cells #[.int .i64 (lo % 100001), .int .i64 1] 37)); have G14 := Lib.hid (G13.out.trans gb); have RS14 := Lib.hid (RS13.out.gr gb); have RI14 := Lib.hid (RI13.out.gr gb); have RP14 := Lib.hid (RP13.out.gr gb); have Z14 := Lib.hid (And.intro (gb.cell Z13.out.1) (gb.cell Z13.out.2)); have Q14 := Lib.hid (And.intro (gb.cell (box_ii w13 tn td 37).1) (gb.cell (box_ii w13 tn td 37).2)); clear g14 gb y25a y25b)
    | (go_at_call 16; (with_reducible refine (D16i.out _ _ _ RI14.out).mono ?_); rintro e w15 ⟨rfl, g15⟩; have gb := g15.trans ((Gr.refl w15).alloc (.cells #[.int .i64 tn, .int .i64 td] 37)); have G15 := Lib.hid (G14.out.trans gb); have RS15 := Lib.hid (RS14.out.gr gb); have RP15 := Lib.hid (RP14.out.gr gb); have Z15 := Lib.hid (And.intro (gb.cell Z14.out.1) (gb.cell Z14.out.2)); have Q15 := Lib.hid (And.intro (gb.cell Q14.out.1) (gb.cell Q14.out.2)); have P15 := Lib.hid (And.intro (gb.cell (box_ii w14 (lo % 100001) 1 37).1) (gb.cell (box_ii w14 (lo % 100001) 1 37).2)); clear g15 gb)
    | (go_at_call 17; (with_reducible refine (D17.out _ _ _ _ _ RP15.out (HC.out.gr G15.out)).mono ?_); rintro e w16 ⟨rfl, g16⟩; have G16 := Lib.hid (G15.out.trans g16); have RS16 := Lib.hid (RS15.out.gr g16); have z25a := g16.cell Z15.out.1; have z25b := g16.cell Z15.out.2; have z28a := g16.cell Q15.out.1; have z28b := g16.cell Q15.out.2; have z29a := g16.cell P15.out.1; have z29b := g16.cell P15.out.2; have z30a := g16.cell (box_ii w15 tn td 37).1; have z30b := g16.cell (box_ii w15 tn td 37).2; have Z16 := Lib.hid (And.intro z25a z25b); clear g16)
    | (go_at_call 18; (with_reducible refine (D18a.out _ _ _ _ _ (HC.out.gr G16.out) (HD.out.gr G16.out)).mono ?_); rintro e w17 ⟨rfl, g17⟩; have G17 := Lib.hid (G16.out.trans g17); have RS17 := Lib.hid (RS16.out.gr g17); have Z17 := Lib.hid (And.intro (g17.cell Z16.out.1) (g17.cell Z16.out.2)); clear g17 z25a z25b z28a z28b z29a z29b z30a z30b)
    | (go_at_call 18; (with_reducible refine (D18b.out _ _ _ _ _ (HC.out.gr G17.out) (HD.out.gr G17.out)).mono ?_); rintro e w18 ⟨rfl, g18⟩; have G18 := Lib.hid (G17.out.trans g18); have RS18 := Lib.hid (RS17.out.gr g18); have Z18 := Lib.hid (And.intro (g18.cell Z17.out.1) (g18.cell Z17.out.2)); clear g18)
    | (go_at_call 19; (with_reducible refine (D19a.out _ _ _ _ _ (HC.out.gr G18.out) (HD.out.gr G18.out)).mono ?_); rintro e w19 ⟨rfl, g19⟩; have gb := g19.trans ((Gr.refl w19).alloc (.cells #[.int .i64 0, .int .i64 q1] 37)); have G19 := Lib.hid (G18.out.trans gb); have RS19 := Lib.hid (RS18.out.gr gb); have Z19 := Lib.hid (And.intro (gb.cell Z18.out.1) (gb.cell Z18.out.2)); clear g19 gb)
    | (go_at_call 19; (with_reducible refine (D19b.out _ _ _ _ _ (HC.out.gr G19.out) RS19.out).mono ?_); rintro e w20 ⟨rfl, g20⟩; have gb := g20.trans ((Gr.refl w20).alloc (.cells #[.int .i64 0, .int .i64 q2] 37)); have G20 := Lib.hid (G19.out.trans gb); have Z20 := Lib.hid (And.intro (gb.cell Z19.out.1) (gb.cell Z19.out.2)); have z35 := gb.cell (box_ii w19 0 q1 37).1; have z37 := (box_ii w20 0 q2 37).1; have U20 := Lib.hid z35; clear g20 gb)
    | (go_at_call 14; (with_reducible refine (D14d.out _ _ _ (HD.out.gr G20.out)).mono ?_); rintro e w21 ⟨rfl, g21⟩; have gb := g21.trans ((Gr.refl w21).alloc (.cells #[.int .i64 tn, .int .i64 td] 37)); have G21 := Lib.hid (G20.out.trans gb); have t25a := gb.cell Z20.out.1; have t25b := gb.cell Z20.out.2; have t35 := gb.cell U20.out; have t38a := (box_ii w21 tn td 37).1; have t38b := (box_ii w21 tn td 37).2; clear g21 gb z35 z37)
    | (go_at_call 5; refine (Awake_any _).mono ?_; rintro e w22 ⟨rfl, g22⟩; have G22 := Lib.hid (G21.out.trans g22); clear g22))
  go_ret
  exact ⟨rfl, G22.out⟩

set_option maxHeartbeats 32000000 in
set_option maxRecDepth 100000 in
theorem walk_fF0 (b lo sp : Int) (a1 a2 a3 : Option Addr) (nr c1 n c2 n' c3 m : Nat) (F L T L' T' kl kt : Nat → Int) (S : ByteArray) (w : World) {tn td m1 q1 m2 q2 : Int} {E : Int}
    (DL1 : Hid (∀ wx, Calls Tryz.prog 4 #[.slice a2 n c2] wx fun e w' => e = .returned (.bool false) ∧ wx = w'))
    (DL2 : Hid (∀ wx, Calls Tryz.prog 4 #[.slice a3 n' c3] wx fun e w' => e = .returned (.bool false) ∧ wx = w'))
    (D6 : Hid (∀ wx, Gr w wx → Calls Tryz.prog 6 #[.int .i64 b, .slice a1 nr c1] wx (RetIs 0 F E wx)))
    (_hE : ¬ E = 0) (hE2 : (E == 0) = false)
    (D7 : Hid (∀ wx, Gr w wx → Calls Tryz.prog 7 #[.int .i64 b, .slice a1 nr c1] wx fun e w' => e = .returned (.bool false) ∧ wx = w'))
    (D10c : Hid (∀ wx, Gr w wx → Calls Tryz.prog 10 #[.slice a2 n c2] wx (RetB true wx)))
    (D10d : Hid (∀ wx, Gr w wx → Calls Tryz.prog 10 #[.slice a3 n' c3] wx (RetB true wx)))
    (HC : Hid (RdM w a2 n L T)) (HD : Hid (RdM w a3 n' L' T'))
    (D11 : Hid (∀ a c w, RdM w a n L T → Calls Tryz.prog 11 #[.slice a n c] w (RetMf m kl kt 0 w)))
    (D12 : Hid (∀ a c w, RdM w a n L T → Calls Tryz.prog 12 #[.slice a n c] w (RetMf n T L 0 w)))
    (D13 : Hid (∀ wx, Gr w wx → Calls Tryz.prog 13 #[.slice a2 n c2] wx (RetTE S 0 wx)))
    (D14 : Hid (∀ a c w, RdM w a n L T → Calls Tryz.prog 14 #[.slice a n c, .int .i64 (lo % 100001)] w (RetRE tn td 0 w)))
    (D14s : Hid (∀ a c w, RdM w a m kl kt → Calls Tryz.prog 14 #[.slice a m c, .int .i64 (lo % 100001)] w (RetRE tn td 0 w)))
    (D14d : Hid (∀ a c w, RdM w a n' L' T' → Calls Tryz.prog 14 #[.slice a n' c, .int .i64 (lo % 100001)] w (RetRE tn td 0 w)))
    (D15 : Hid (∀ wx, Gr w wx → Calls Tryz.prog 15 #[.string S] wx (RetMf n L T 0 wx)))
    (D16s : Hid (∀ a c w, RdM w a m kl kt → Calls Tryz.prog 16 #[.slice a m c, .agg #[.int .i64 tn, .int .i64 td]] w (RetRE (lo % 100001) 1 0 w)))
    (D16i : Hid (∀ a c w, RdM w a n T L → Calls Tryz.prog 16 #[.slice a n c, .agg #[.int .i64 (lo % 100001), .int .i64 1]] w (RetRE tn td 0 w)))
    (D17 : Hid (∀ a a' c c' w, RdM w a n L T → RdM w a' n L T → Calls Tryz.prog 17 #[.slice a n c, .slice a' n c'] w (RetB true w)))
    (D18a : Hid (∀ a a' c c' w, RdM w a n L T → RdM w a' n' L' T' → Calls Tryz.prog 18 #[.slice a n c, .slice a' n' c'] w (RetBE false 0 w)))
    (D18b : Hid (∀ a a' c c' w, RdM w a n L T → RdM w a' n' L' T' → Calls Tryz.prog 18 #[.slice a' n' c', .slice a n c] w (RetBE false 0 w)))
    (D19a : Hid (∀ a a' c c' w, RdM w a n L T → RdM w a' n' L' T' → Calls Tryz.prog 19 #[.slice a n c, .slice a' n' c', .int .i64 (lo % 100001), .int .i64 (min (lo % 100001 + sp) 100000)] w (RetIRE m1 0 q1 0 w)))
    (D19b : Hid (∀ a a' c c' w, RdM w a n L T → RdM w a' m kl kt → Calls Tryz.prog 19 #[.slice a n c, .slice a' m c', .int .i64 (lo % 100001), .int .i64 (min (lo % 100001 + sp) 100000)] w (RetIRE m2 0 q2 0 w)))
    (n1 : ¬ (nr : Int) > 200) (l0 : 0 ≤ lo) (l1 : lo ≤ 4294967295) (s0 : 0 ≤ sp) (s1 : sp ≤ 255) :
    Calls Tryz.prog 3 #[.int .i64 b, .slice a1 nr c1, .slice a2 n c2, .slice a3 n' c3, .int .u32 lo, .int .u8 sp] w (RetB true w) := by
  have x0 : 0 ≤ lo % 100001 := by omega
  have x1 : lo % 100001 ≤ 100000 := by omega
  have v1 : IntKind.i64.wrap lo = lo := IntWalk.i64_in _ (by omega)
  have v2 : IntKind.i64.wrap sp = sp := IntWalk.i64_in _ (by omega)
  have v3 : IntKind.i64.wrap (lo % 100001 + sp) = lo % 100001 + sp := IntWalk.i64_in _ (by omega)
  go_enter Tryz.func3, Tryz.ntmps3
  go_wp2_with (first
    | (go_at_call 4; (with_reducible refine (DL1.out _).mono ?_); rintro e u1 ⟨rfl, rfl⟩)
    | (go_at_call 4; (with_reducible refine (DL2.out _).mono ?_); rintro e u2 ⟨rfl, rfl⟩)
    | (go_at_call 6; (with_reducible refine (D6.out _ (Gr.refl _)).mono ?_); rintro e w5 ⟨a6, c6, rfl, _, _, _, g1⟩; have G5 := Lib.hid g1; clear g1)
    | (go_at_call 7; (with_reducible refine (D7.out _ G5.out).mono ?_); rintro e u3 ⟨rfl, rfl⟩)
    | (go_at_call 10; (with_reducible refine (D10c.out _ G5.out).mono ?_); rintro e w6 ⟨rfl, g6⟩; have G6 := Lib.hid (G5.out.trans g6); clear g6)
    | (go_at_call 10; (with_reducible refine (D10d.out _ G6.out).mono ?_); rintro e w7 ⟨rfl, g7⟩; have G7 := Lib.hid (G6.out.trans g7); clear g7)
    | (go_at_call 11; (with_reducible refine (D11.out _ _ _ (HC.out.gr G7.out)).mono ?_); rintro e w8 ⟨az, cz, rfl, _, _, rs, g8⟩; have G8 := Lib.hid (G7.out.trans g8); have RS8 := Lib.hid rs; clear g8 rs)
    | (go_at_call 12; (with_reducible refine (D12.out _ _ _ (HC.out.gr G8.out)).mono ?_); rintro e w9 ⟨ai, ci, rfl, _, _, ri, g9⟩; have G9 := Lib.hid (G8.out.trans g9); have RS9 := Lib.hid (RS8.out.gr g9); have RI9 := Lib.hid ri; clear g9 ri)
    | (go_at_call 13; (with_reducible refine (D13.out _ G9.out).mono ?_); rintro e w10 ⟨rfl, g10⟩; have G10 := Lib.hid (G9.out.trans g10); have RS10 := Lib.hid (RS9.out.gr g10); have RI10 := Lib.hid (RI9.out.gr g10); clear g10)
    | (go_at_call 14; (with_reducible refine (D14.out _ _ _ (HC.out.gr G10.out)).mono ?_); rintro e w11 ⟨rfl, g11⟩; have G11 := Lib.hid ((G10.out.trans g11).alloc (.cells #[.int .i64 tn, .int .i64 td] 37)); have RS11 := Lib.hid ((RS10.out.gr g11).gr ((Gr.refl w11).alloc (.cells #[.int .i64 tn, .int .i64 td] 37))); have RI11 := Lib.hid ((RI10.out.gr g11).gr ((Gr.refl w11).alloc (.cells #[.int .i64 tn, .int .i64 td] 37))); clear g11)
    | (go_at_call 15; (with_reducible refine (D15.out _ G11.out).mono ?_); rintro e w12 ⟨ap, cp, rfl, _, _, rp, g12⟩; have G12 := Lib.hid (G11.out.trans g12); have RS12 := Lib.hid (RS11.out.gr g12); have RI12 := Lib.hid (RI11.out.gr g12); have RP12 := Lib.hid rp; have Z12 := Lib.hid (And.intro (g12.cell (box_ii w11 tn td 37).1) (g12.cell (box_ii w11 tn td 37).2)); clear g12 rp)
    | (go_at_call 14; (with_reducible refine (D14s.out _ _ _ RS12.out).mono ?_); rintro e w13 ⟨rfl, g13⟩; have gb := g13.trans ((Gr.refl w13).alloc (.cells #[.int .i64 tn, .int .i64 td] 37)); have G13 := Lib.hid (G12.out.trans gb); have RS13 := Lib.hid (RS12.out.gr gb); have RI13 := Lib.hid (RI12.out.gr gb); have RP13 := Lib.hid (RP12.out.gr gb); have y25a := gb.cell Z12.out.1; have y25b := gb.cell Z12.out.2; have Z13 := Lib.hid (And.intro y25a y25b); clear g13 gb)
    | (go_at_call 16; (with_reducible refine (D16s.out _ _ _ RS13.out).mono ?_); rintro e w14 ⟨rfl, g14⟩; have gb := g14.trans ((Gr.refl w14).alloc (.cells #[.int .i64 (lo % 100001), .int .i64 1] 37)); have G14 := Lib.hid (G13.out.trans gb); have RS14 := Lib.hid (RS13.out.gr gb); have RI14 := Lib.hid (RI13.out.gr gb); have RP14 := Lib.hid (RP13.out.gr gb); have Z14 := Lib.hid (And.intro (gb.cell Z13.out.1) (gb.cell Z13.out.2)); have Q14 := Lib.hid (And.intro (gb.cell (box_ii w13 tn td 37).1) (gb.cell (box_ii w13 tn td 37).2)); clear g14 gb y25a y25b)
    | (go_at_call 16; (with_reducible refine (D16i.out _ _ _ RI14.out).mono ?_); rintro e w15 ⟨rfl, g15⟩; have gb := g15.trans ((Gr.refl w15).alloc (.cells #[.int .i64 tn, .int .i64 td] 37)); have G15 := Lib.hid (G14.out.trans gb); have RS15 := Lib.hid (RS14.out.gr gb); have RP15 := Lib.hid (RP14.out.gr gb); have Z15 := Lib.hid (And.intro (gb.cell Z14.out.1) (gb.cell Z14.out.2)); have Q15 := Lib.hid (And.intro (gb.cell Q14.out.1) (gb.cell Q14.out.2)); have P15 := Lib.hid (And.intro (gb.cell (box_ii w14 (lo % 100001) 1 37).1) (gb.cell (box_ii w14 (lo % 100001) 1 37).2)); clear g15 gb)
    | (go_at_call 17; (with_reducible refine (D17.out _ _ _ _ _ RP15.out (HC.out.gr G15.out)).mono ?_); rintro e w16 ⟨rfl, g16⟩; have G16 := Lib.hid (G15.out.trans g16); have RS16 := Lib.hid (RS15.out.gr g16); have z25a := g16.cell Z15.out.1; have z25b := g16.cell Z15.out.2; have z28a := g16.cell Q15.out.1; have z28b := g16.cell Q15.out.2; have z29a := g16.cell P15.out.1; have z29b := g16.cell P15.out.2; have z30a := g16.cell (box_ii w15 tn td 37).1; have z30b := g16.cell (box_ii w15 tn td 37).2; have Z16 := Lib.hid (And.intro z25a z25b); clear g16)
    | (go_at_call 18; (with_reducible refine (D18a.out _ _ _ _ _ (HC.out.gr G16.out) (HD.out.gr G16.out)).mono ?_); rintro e w17 ⟨rfl, g17⟩; have G17 := Lib.hid (G16.out.trans g17); have RS17 := Lib.hid (RS16.out.gr g17); have Z17 := Lib.hid (And.intro (g17.cell Z16.out.1) (g17.cell Z16.out.2)); clear g17 z25a z25b z28a z28b z29a z29b z30a z30b)
    | (go_at_call 18; (with_reducible refine (D18b.out _ _ _ _ _ (HC.out.gr G17.out) (HD.out.gr G17.out)).mono ?_); rintro e w18 ⟨rfl, g18⟩; have G18 := Lib.hid (G17.out.trans g18); have RS18 := Lib.hid (RS17.out.gr g18); have Z18 := Lib.hid (And.intro (g18.cell Z17.out.1) (g18.cell Z17.out.2)); clear g18)
    | (go_at_call 19; (with_reducible refine (D19a.out _ _ _ _ _ (HC.out.gr G18.out) (HD.out.gr G18.out)).mono ?_); rintro e w19 ⟨rfl, g19⟩; have gb := g19.trans ((Gr.refl w19).alloc (.cells #[.int .i64 0, .int .i64 q1] 37)); have G19 := Lib.hid (G18.out.trans gb); have RS19 := Lib.hid (RS18.out.gr gb); have Z19 := Lib.hid (And.intro (gb.cell Z18.out.1) (gb.cell Z18.out.2)); clear g19 gb)
    | (go_at_call 19; (with_reducible refine (D19b.out _ _ _ _ _ (HC.out.gr G19.out) RS19.out).mono ?_); rintro e w20 ⟨rfl, g20⟩; have gb := g20.trans ((Gr.refl w20).alloc (.cells #[.int .i64 0, .int .i64 q2] 37)); have G20 := Lib.hid (G19.out.trans gb); have Z20 := Lib.hid (And.intro (gb.cell Z19.out.1) (gb.cell Z19.out.2)); have z35 := gb.cell (box_ii w19 0 q1 37).1; have z37 := (box_ii w20 0 q2 37).1; have U20 := Lib.hid z35; clear g20 gb)
    | (go_at_call 14; (with_reducible refine (D14d.out _ _ _ (HD.out.gr G20.out)).mono ?_); rintro e w21 ⟨rfl, g21⟩; have gb := g21.trans ((Gr.refl w21).alloc (.cells #[.int .i64 tn, .int .i64 td] 37)); have G21 := Lib.hid (G20.out.trans gb); have t25a := gb.cell Z20.out.1; have t25b := gb.cell Z20.out.2; have t35 := gb.cell U20.out; have t38a := (box_ii w21 tn td 37).1; have t38b := (box_ii w21 tn td 37).2; clear g21 gb z35 z37)
    | (go_at_call 5; refine (Awake_any _).mono ?_; rintro e w22 ⟨rfl, g22⟩; have G22 := Lib.hid (G21.out.trans g22); clear g22))
  go_ret
  exact ⟨rfl, G22.out⟩

set_option maxHeartbeats 32000000 in
set_option maxRecDepth 100000 in
theorem walk_fFN (b lo sp : Int) (a1 a2 a3 : Option Addr) (nr c1 n c2 n' c3 m : Nat) (F L T L' T' kl kt : Nat → Int) (S : ByteArray) (w : World) {tn td on od p m1 q1 m2 q2 : Int} {E : Int}
    (DL1 : Hid (∀ wx, Calls Tryz.prog 4 #[.slice a2 n c2] wx fun e w' => e = .returned (.bool false) ∧ wx = w'))
    (DL2 : Hid (∀ wx, Calls Tryz.prog 4 #[.slice a3 n' c3] wx fun e w' => e = .returned (.bool false) ∧ wx = w'))
    (D6 : Hid (∀ wx, Gr w wx → Calls Tryz.prog 6 #[.int .i64 b, .slice a1 nr c1] wx (RetIs 0 F E wx)))
    (_hE : ¬ E = 0) (hE2 : (E == 0) = false)
    (D7 : Hid (∀ wx, Gr w wx → Calls Tryz.prog 7 #[.int .i64 b, .slice a1 nr c1] wx fun e w' => e = .returned (.bool false) ∧ wx = w'))
    (D10c : Hid (∀ wx, Gr w wx → Calls Tryz.prog 10 #[.slice a2 n c2] wx (RetB true wx)))
    (D10d : Hid (∀ wx, Gr w wx → Calls Tryz.prog 10 #[.slice a3 n' c3] wx (RetB true wx)))
    (HC : Hid (RdM w a2 n L T)) (HD : Hid (RdM w a3 n' L' T'))
    (D11 : Hid (∀ a c w, RdM w a n L T → Calls Tryz.prog 11 #[.slice a n c] w (RetMf m kl kt 0 w)))
    (D12 : Hid (∀ a c w, RdM w a n L T → Calls Tryz.prog 12 #[.slice a n c] w (RetMf n T L 0 w)))
    (D13 : Hid (∀ wx, Gr w wx → Calls Tryz.prog 13 #[.slice a2 n c2] wx (RetTE S 0 wx)))
    (D14 : Hid (∀ a c w, RdM w a n L T → Calls Tryz.prog 14 #[.slice a n c, .int .i64 (lo % 100001)] w (RetRE tn td 0 w)))
    (D14s : Hid (∀ a c w, RdM w a m kl kt → Calls Tryz.prog 14 #[.slice a m c, .int .i64 (lo % 100001)] w (RetRE tn td 0 w)))
    (D14d : Hid (∀ a c w, RdM w a n' L' T' → Calls Tryz.prog 14 #[.slice a n' c, .int .i64 (lo % 100001)] w (RetRE on od 0 w)))
    (D15 : Hid (∀ wx, Gr w wx → Calls Tryz.prog 15 #[.string S] wx (RetMf n L T 0 wx)))
    (D16s : Hid (∀ a c w, RdM w a m kl kt → Calls Tryz.prog 16 #[.slice a m c, .agg #[.int .i64 tn, .int .i64 td]] w (RetRE (lo % 100001) 1 0 w)))
    (D16i : Hid (∀ a c w, RdM w a n T L → Calls Tryz.prog 16 #[.slice a n c, .agg #[.int .i64 (lo % 100001), .int .i64 1]] w (RetRE tn td 0 w)))
    (D17 : Hid (∀ a a' c c' w, RdM w a n L T → RdM w a' n L T → Calls Tryz.prog 17 #[.slice a n c, .slice a' n c'] w (RetB true w)))
    (D18a : Hid (∀ a a' c c' w, RdM w a n L T → RdM w a' n' L' T' → Calls Tryz.prog 18 #[.slice a n c, .slice a' n' c'] w (RetBE false 0 w)))
    (D18b : Hid (∀ a a' c c' w, RdM w a n L T → RdM w a' n' L' T' → Calls Tryz.prog 18 #[.slice a' n' c', .slice a n c] w (RetBE false 0 w)))
    (D19a : Hid (∀ a a' c c' w, RdM w a n L T → RdM w a' n' L' T' → Calls Tryz.prog 19 #[.slice a n c, .slice a' n' c', .int .i64 (lo % 100001), .int .i64 (min (lo % 100001 + sp) 100000)] w (RetIRE m1 p q1 0 w)))
    (D19b : Hid (∀ a a' c c' w, RdM w a n L T → RdM w a' m kl kt → Calls Tryz.prog 19 #[.slice a n c, .slice a' m c', .int .i64 (lo % 100001), .int .i64 (min (lo % 100001 + sp) 100000)] w (RetIRE m2 0 q2 0 w)))
    (_np : ¬ p = 0) (np2 : (p != 0) = true)
    (n1 : ¬ (nr : Int) > 200) (l0 : 0 ≤ lo) (l1 : lo ≤ 4294967295) (s0 : 0 ≤ sp) (s1 : sp ≤ 255) :
    Calls Tryz.prog 3 #[.int .i64 b, .slice a1 nr c1, .slice a2 n c2, .slice a3 n' c3, .int .u32 lo, .int .u8 sp] w (RetB true w) := by
  have x0 : 0 ≤ lo % 100001 := by omega
  have x1 : lo % 100001 ≤ 100000 := by omega
  have v1 : IntKind.i64.wrap lo = lo := IntWalk.i64_in _ (by omega)
  have v2 : IntKind.i64.wrap sp = sp := IntWalk.i64_in _ (by omega)
  have v3 : IntKind.i64.wrap (lo % 100001 + sp) = lo % 100001 + sp := IntWalk.i64_in _ (by omega)
  go_enter Tryz.func3, Tryz.ntmps3
  go_wp2_with (first
    | (go_at_call 4; (with_reducible refine (DL1.out _).mono ?_); rintro e u1 ⟨rfl, rfl⟩)
    | (go_at_call 4; (with_reducible refine (DL2.out _).mono ?_); rintro e u2 ⟨rfl, rfl⟩)
    | (go_at_call 6; (with_reducible refine (D6.out _ (Gr.refl _)).mono ?_); rintro e w5 ⟨a6, c6, rfl, _, _, _, g1⟩; have G5 := Lib.hid g1; clear g1)
    | (go_at_call 7; (with_reducible refine (D7.out _ G5.out).mono ?_); rintro e u3 ⟨rfl, rfl⟩)
    | (go_at_call 10; (with_reducible refine (D10c.out _ G5.out).mono ?_); rintro e w6 ⟨rfl, g6⟩; have G6 := Lib.hid (G5.out.trans g6); clear g6)
    | (go_at_call 10; (with_reducible refine (D10d.out _ G6.out).mono ?_); rintro e w7 ⟨rfl, g7⟩; have G7 := Lib.hid (G6.out.trans g7); clear g7)
    | (go_at_call 11; (with_reducible refine (D11.out _ _ _ (HC.out.gr G7.out)).mono ?_); rintro e w8 ⟨az, cz, rfl, _, _, rs, g8⟩; have G8 := Lib.hid (G7.out.trans g8); have RS8 := Lib.hid rs; clear g8 rs)
    | (go_at_call 12; (with_reducible refine (D12.out _ _ _ (HC.out.gr G8.out)).mono ?_); rintro e w9 ⟨ai, ci, rfl, _, _, ri, g9⟩; have G9 := Lib.hid (G8.out.trans g9); have RS9 := Lib.hid (RS8.out.gr g9); have RI9 := Lib.hid ri; clear g9 ri)
    | (go_at_call 13; (with_reducible refine (D13.out _ G9.out).mono ?_); rintro e w10 ⟨rfl, g10⟩; have G10 := Lib.hid (G9.out.trans g10); have RS10 := Lib.hid (RS9.out.gr g10); have RI10 := Lib.hid (RI9.out.gr g10); clear g10)
    | (go_at_call 14; (with_reducible refine (D14.out _ _ _ (HC.out.gr G10.out)).mono ?_); rintro e w11 ⟨rfl, g11⟩; have G11 := Lib.hid ((G10.out.trans g11).alloc (.cells #[.int .i64 tn, .int .i64 td] 37)); have RS11 := Lib.hid ((RS10.out.gr g11).gr ((Gr.refl w11).alloc (.cells #[.int .i64 tn, .int .i64 td] 37))); have RI11 := Lib.hid ((RI10.out.gr g11).gr ((Gr.refl w11).alloc (.cells #[.int .i64 tn, .int .i64 td] 37))); clear g11)
    | (go_at_call 15; (with_reducible refine (D15.out _ G11.out).mono ?_); rintro e w12 ⟨ap, cp, rfl, _, _, rp, g12⟩; have G12 := Lib.hid (G11.out.trans g12); have RS12 := Lib.hid (RS11.out.gr g12); have RI12 := Lib.hid (RI11.out.gr g12); have RP12 := Lib.hid rp; have Z12 := Lib.hid (And.intro (g12.cell (box_ii w11 tn td 37).1) (g12.cell (box_ii w11 tn td 37).2)); clear g12 rp)
    | (go_at_call 14; (with_reducible refine (D14s.out _ _ _ RS12.out).mono ?_); rintro e w13 ⟨rfl, g13⟩; have gb := g13.trans ((Gr.refl w13).alloc (.cells #[.int .i64 tn, .int .i64 td] 37)); have G13 := Lib.hid (G12.out.trans gb); have RS13 := Lib.hid (RS12.out.gr gb); have RI13 := Lib.hid (RI12.out.gr gb); have RP13 := Lib.hid (RP12.out.gr gb); have y25a := gb.cell Z12.out.1; have y25b := gb.cell Z12.out.2; have Z13 := Lib.hid (And.intro y25a y25b); clear g13 gb)
    | (go_at_call 16; (with_reducible refine (D16s.out _ _ _ RS13.out).mono ?_); rintro e w14 ⟨rfl, g14⟩; have gb := g14.trans ((Gr.refl w14).alloc (.cells #[.int .i64 (lo % 100001), .int .i64 1] 37)); have G14 := Lib.hid (G13.out.trans gb); have RS14 := Lib.hid (RS13.out.gr gb); have RI14 := Lib.hid (RI13.out.gr gb); have RP14 := Lib.hid (RP13.out.gr gb); have Z14 := Lib.hid (And.intro (gb.cell Z13.out.1) (gb.cell Z13.out.2)); have Q14 := Lib.hid (And.intro (gb.cell (box_ii w13 tn td 37).1) (gb.cell (box_ii w13 tn td 37).2)); clear g14 gb y25a y25b)
    | (go_at_call 16; (with_reducible refine (D16i.out _ _ _ RI14.out).mono ?_); rintro e w15 ⟨rfl, g15⟩; have gb := g15.trans ((Gr.refl w15).alloc (.cells #[.int .i64 tn, .int .i64 td] 37)); have G15 := Lib.hid (G14.out.trans gb); have RS15 := Lib.hid (RS14.out.gr gb); have RP15 := Lib.hid (RP14.out.gr gb); have Z15 := Lib.hid (And.intro (gb.cell Z14.out.1) (gb.cell Z14.out.2)); have Q15 := Lib.hid (And.intro (gb.cell Q14.out.1) (gb.cell Q14.out.2)); have P15 := Lib.hid (And.intro (gb.cell (box_ii w14 (lo % 100001) 1 37).1) (gb.cell (box_ii w14 (lo % 100001) 1 37).2)); clear g15 gb)
    | (go_at_call 17; (with_reducible refine (D17.out _ _ _ _ _ RP15.out (HC.out.gr G15.out)).mono ?_); rintro e w16 ⟨rfl, g16⟩; have G16 := Lib.hid (G15.out.trans g16); have RS16 := Lib.hid (RS15.out.gr g16); have z25a := g16.cell Z15.out.1; have z25b := g16.cell Z15.out.2; have z28a := g16.cell Q15.out.1; have z28b := g16.cell Q15.out.2; have z29a := g16.cell P15.out.1; have z29b := g16.cell P15.out.2; have z30a := g16.cell (box_ii w15 tn td 37).1; have z30b := g16.cell (box_ii w15 tn td 37).2; have Z16 := Lib.hid (And.intro z25a z25b); clear g16)
    | (go_at_call 18; (with_reducible refine (D18a.out _ _ _ _ _ (HC.out.gr G16.out) (HD.out.gr G16.out)).mono ?_); rintro e w17 ⟨rfl, g17⟩; have G17 := Lib.hid (G16.out.trans g17); have RS17 := Lib.hid (RS16.out.gr g17); have Z17 := Lib.hid (And.intro (g17.cell Z16.out.1) (g17.cell Z16.out.2)); clear g17 z25a z25b z28a z28b z29a z29b z30a z30b)
    | (go_at_call 18; (with_reducible refine (D18b.out _ _ _ _ _ (HC.out.gr G17.out) (HD.out.gr G17.out)).mono ?_); rintro e w18 ⟨rfl, g18⟩; have G18 := Lib.hid (G17.out.trans g18); have RS18 := Lib.hid (RS17.out.gr g18); have Z18 := Lib.hid (And.intro (g18.cell Z17.out.1) (g18.cell Z17.out.2)); clear g18)
    | (go_at_call 19; (with_reducible refine (D19a.out _ _ _ _ _ (HC.out.gr G18.out) (HD.out.gr G18.out)).mono ?_); rintro e w19 ⟨rfl, g19⟩; have gb := g19.trans ((Gr.refl w19).alloc (.cells #[.int .i64 p, .int .i64 q1] 37)); have G19 := Lib.hid (G18.out.trans gb); have RS19 := Lib.hid (RS18.out.gr gb); have Z19 := Lib.hid (And.intro (gb.cell Z18.out.1) (gb.cell Z18.out.2)); clear g19 gb)
    | (go_at_call 19; (with_reducible refine (D19b.out _ _ _ _ _ (HC.out.gr G19.out) RS19.out).mono ?_); rintro e w20 ⟨rfl, g20⟩; have gb := g20.trans ((Gr.refl w20).alloc (.cells #[.int .i64 0, .int .i64 q2] 37)); have G20 := Lib.hid (G19.out.trans gb); have Z20 := Lib.hid (And.intro (gb.cell Z19.out.1) (gb.cell Z19.out.2)); have z35 := gb.cell (box_ii w19 p q1 37).1; have z37 := (box_ii w20 0 q2 37).1; have U20 := Lib.hid z35; clear g20 gb)
    | (go_at_call 14; (with_reducible refine (D14d.out _ _ _ (HD.out.gr G20.out)).mono ?_); rintro e w21 ⟨rfl, g21⟩; have gb := g21.trans ((Gr.refl w21).alloc (.cells #[.int .i64 on, .int .i64 od] 37)); have G21 := Lib.hid (G20.out.trans gb); have t25a := gb.cell Z20.out.1; have t25b := gb.cell Z20.out.2; have t35 := gb.cell U20.out; have t38a := (box_ii w21 on od 37).1; have t38b := (box_ii w21 on od 37).2; clear g21 gb z35 z37)
    | (go_at_call 5; refine (Awake_any _).mono ?_; rintro e w22 ⟨rfl, g22⟩; have G22 := Lib.hid (G21.out.trans g22); clear g22))
  go_ret
  exact ⟨rfl, G22.out⟩

set_option maxHeartbeats 8000000 in
set_option maxRecDepth 100000 in
theorem early_0 (b lo sp : Int) (a1 a2 a3 : Option Addr) (nr c1 n c2 n' c3 : Nat) (w : World)
    (n1 : (nr : Int) > 200) :
    Calls Tryz.prog 3 #[.int .i64 b, .slice a1 nr c1, .slice a2 n c2, .slice a3 n' c3, .int .u32 lo, .int .u8 sp] w (RetB true w) := by
  go_enter Tryz.func3, Tryz.ntmps3
  go_wp2_with (first
    | (go_at_call 5; refine (Awake_any _).mono ?_; rintro e w22 ⟨rfl, g22⟩; have G22 := Lib.hid (g22); clear g22))
  go_ret
  exact ⟨rfl, G22.out⟩

set_option maxHeartbeats 8000000 in
set_option maxRecDepth 100000 in
theorem early_1 (b lo sp : Int) (a1 a2 a3 : Option Addr) (nr c1 n c2 n' c3 : Nat) (w : World)
    (n1 : ¬ (nr : Int) > 200)
    (DL1 : Hid (∀ wx, Calls Tryz.prog 4 #[.slice a2 n c2] wx fun e w' => e = .returned (.bool true) ∧ wx = w')) :
    Calls Tryz.prog 3 #[.int .i64 b, .slice a1 nr c1, .slice a2 n c2, .slice a3 n' c3, .int .u32 lo, .int .u8 sp] w (RetB true w) := by
  go_enter Tryz.func3, Tryz.ntmps3
  go_wp2_with (first
    | (go_at_call 4; (with_reducible refine (DL1.out _).mono ?_); rintro e u1 ⟨rfl, rfl⟩)
    | (go_at_call 5; refine (Awake_any _).mono ?_; rintro e w22 ⟨rfl, g22⟩; have G22 := Lib.hid (g22); clear g22))
  go_ret
  exact ⟨rfl, G22.out⟩

set_option maxHeartbeats 8000000 in
set_option maxRecDepth 100000 in
theorem early_2 (b lo sp : Int) (a1 a2 a3 : Option Addr) (nr c1 n c2 n' c3 : Nat) (w : World)
    (n1 : ¬ (nr : Int) > 200)
    (DL1 : Hid (∀ wx, Calls Tryz.prog 4 #[.slice a2 n c2] wx fun e w' => e = .returned (.bool false) ∧ wx = w'))
    (DL2 : Hid (∀ wx, Calls Tryz.prog 4 #[.slice a3 n' c3] wx fun e w' => e = .returned (.bool true) ∧ wx = w')) :
    Calls Tryz.prog 3 #[.int .i64 b, .slice a1 nr c1, .slice a2 n c2, .slice a3 n' c3, .int .u32 lo, .int .u8 sp] w (RetB true w) := by
  go_enter Tryz.func3, Tryz.ntmps3
  go_wp2_with (first
    | (go_at_call 4; (with_reducible refine (DL1.out _).mono ?_); rintro e u1 ⟨rfl, rfl⟩)
    | (go_at_call 4; (with_reducible refine (DL2.out _).mono ?_); rintro e u2 ⟨rfl, rfl⟩)
    | (go_at_call 5; refine (Awake_any _).mono ?_; rintro e w22 ⟨rfl, g22⟩; have G22 := Lib.hid (g22); clear g22))
  go_ret
  exact ⟨rfl, G22.out⟩

set_option maxHeartbeats 32000000 in
set_option maxRecDepth 100000 in
theorem mid_tc (b lo sp : Int) (a1 a2 a3 : Option Addr) (nr c1 n c2 n' c3 : Nat) (f F : Nat → Int) (w : World)
    (DL1 : Hid (∀ wx, Calls Tryz.prog 4 #[.slice a2 n c2] wx fun e w' => e = .returned (.bool false) ∧ wx = w'))
    (DL2 : Hid (∀ wx, Calls Tryz.prog 4 #[.slice a3 n' c3] wx fun e w' => e = .returned (.bool false) ∧ wx = w'))
    (D6 : Hid (∀ a c w, RdI w a nr f → Calls Tryz.prog 6 #[.int .i64 b, .slice a nr c] w (RetIs nr F 0 w)))
    (D8 : Hid (∀ a c w, RdI w a nr F → Calls Tryz.prog 8 #[.int .i64 b, .slice a nr c] w (RetIs nr f 0 w)))
    (D9 : Hid (∀ a c a' c' (g : Nat → Int) w, RdI w a nr g → RdI w a' nr g → Calls Tryz.prog 9 #[.slice a nr c, .slice a' nr c'] w (RetB true w)))
    (HF : Hid (RdI w a1 nr f))
    (D7 : Hid (∀ wx, Gr w wx → Calls Tryz.prog 7 #[.int .i64 b, .slice a1 nr c1] wx fun e w' => e = .returned (.bool true) ∧ wx = w'))
    (D10c : Hid (∀ wx, Gr w wx → Calls Tryz.prog 10 #[.slice a2 n c2] wx (RetB false wx)))
    (n1 : ¬ (nr : Int) > 200) :
    Calls Tryz.prog 3 #[.int .i64 b, .slice a1 nr c1, .slice a2 n c2, .slice a3 n' c3, .int .u32 lo, .int .u8 sp] w (RetB true w) := by
  go_enter Tryz.func3, Tryz.ntmps3
  go_wp2_with (first
    | (go_at_call 4; (with_reducible refine (DL1.out _).mono ?_); rintro e u1 ⟨rfl, rfl⟩)
    | (go_at_call 4; (with_reducible refine (DL2.out _).mono ?_); rintro e u2 ⟨rfl, rfl⟩)
    | (go_at_call 6; (with_reducible refine (D6.out _ _ _ HF.out).mono ?_); rintro e w1 ⟨a6, c6, rfl, _, _, r6, g1⟩; have G1 := Lib.hid g1; have R6 := Lib.hid r6; clear g1 r6)
    | (go_at_call 7; (with_reducible refine (D7.out _ G1.out).mono ?_); rintro e u3 ⟨rfl, rfl⟩)
    | (go_at_call 8; (with_reducible refine (D8.out _ _ _ R6.out).mono ?_); rintro e w2 ⟨a8, c8, rfl, _, _, r8, g2⟩; have G2 := Lib.hid (G1.out.trans g2); have R6b := Lib.hid (R6.out.gr g2); have R8 := Lib.hid r8; clear g2 r8)
    | (go_at_call 6; (with_reducible refine (D6.out _ _ _ R8.out).mono ?_); rintro e w3 ⟨a7, c7, rfl, _, _, r7, g3⟩; have G3 := Lib.hid (G2.out.trans g3); have R6c := Lib.hid (R6b.out.gr g3); have R8c := Lib.hid (R8.out.gr g3); have R7 := Lib.hid r7; clear g3 r7)
    | (go_at_call 9; (with_reducible refine (D9.out _ _ _ _ f _ R8c.out (HF.out.gr G3.out)).mono ?_); rintro e w4 ⟨rfl, g4⟩; have G4 := Lib.hid (G3.out.trans g4); have R6d := Lib.hid (R6c.out.gr g4); have R7d := Lib.hid (R7.out.gr g4); clear g4)
    | (go_at_call 9; (with_reducible refine (D9.out _ _ _ _ F _ R7d.out R6d.out).mono ?_); rintro e w5 ⟨rfl, g5⟩; have G5 := Lib.hid (G4.out.trans g5); clear g5)
    | (go_at_call 10; (with_reducible refine (D10c.out _ G5.out).mono ?_); rintro e w6 ⟨rfl, g6⟩; have G6 := Lib.hid (G5.out.trans g6); clear g6 D10c)
    | (go_at_call 5; refine (Awake_any _).mono ?_; rintro e w22 ⟨rfl, g22⟩; have G22 := Lib.hid (G6.out.trans (g22)); clear g22))
  go_ret
  exact ⟨rfl, G22.out⟩

set_option maxHeartbeats 32000000 in
set_option maxRecDepth 100000 in
theorem mid_td (b lo sp : Int) (a1 a2 a3 : Option Addr) (nr c1 n c2 n' c3 : Nat) (f F : Nat → Int) (w : World)
    (DL1 : Hid (∀ wx, Calls Tryz.prog 4 #[.slice a2 n c2] wx fun e w' => e = .returned (.bool false) ∧ wx = w'))
    (DL2 : Hid (∀ wx, Calls Tryz.prog 4 #[.slice a3 n' c3] wx fun e w' => e = .returned (.bool false) ∧ wx = w'))
    (D6 : Hid (∀ a c w, RdI w a nr f → Calls Tryz.prog 6 #[.int .i64 b, .slice a nr c] w (RetIs nr F 0 w)))
    (D8 : Hid (∀ a c w, RdI w a nr F → Calls Tryz.prog 8 #[.int .i64 b, .slice a nr c] w (RetIs nr f 0 w)))
    (D9 : Hid (∀ a c a' c' (g : Nat → Int) w, RdI w a nr g → RdI w a' nr g → Calls Tryz.prog 9 #[.slice a nr c, .slice a' nr c'] w (RetB true w)))
    (HF : Hid (RdI w a1 nr f))
    (D7 : Hid (∀ wx, Gr w wx → Calls Tryz.prog 7 #[.int .i64 b, .slice a1 nr c1] wx fun e w' => e = .returned (.bool true) ∧ wx = w'))
    (D10c : Hid (∀ wx, Gr w wx → Calls Tryz.prog 10 #[.slice a2 n c2] wx (RetB true wx)))
    (D10d : Hid (∀ wx, Gr w wx → Calls Tryz.prog 10 #[.slice a3 n' c3] wx (RetB false wx)))
    (n1 : ¬ (nr : Int) > 200) :
    Calls Tryz.prog 3 #[.int .i64 b, .slice a1 nr c1, .slice a2 n c2, .slice a3 n' c3, .int .u32 lo, .int .u8 sp] w (RetB true w) := by
  go_enter Tryz.func3, Tryz.ntmps3
  go_wp2_with (first
    | (go_at_call 4; (with_reducible refine (DL1.out _).mono ?_); rintro e u1 ⟨rfl, rfl⟩)
    | (go_at_call 4; (with_reducible refine (DL2.out _).mono ?_); rintro e u2 ⟨rfl, rfl⟩)
    | (go_at_call 6; (with_reducible refine (D6.out _ _ _ HF.out).mono ?_); rintro e w1 ⟨a6, c6, rfl, _, _, r6, g1⟩; have G1 := Lib.hid g1; have R6 := Lib.hid r6; clear g1 r6)
    | (go_at_call 7; (with_reducible refine (D7.out _ G1.out).mono ?_); rintro e u3 ⟨rfl, rfl⟩)
    | (go_at_call 8; (with_reducible refine (D8.out _ _ _ R6.out).mono ?_); rintro e w2 ⟨a8, c8, rfl, _, _, r8, g2⟩; have G2 := Lib.hid (G1.out.trans g2); have R6b := Lib.hid (R6.out.gr g2); have R8 := Lib.hid r8; clear g2 r8)
    | (go_at_call 6; (with_reducible refine (D6.out _ _ _ R8.out).mono ?_); rintro e w3 ⟨a7, c7, rfl, _, _, r7, g3⟩; have G3 := Lib.hid (G2.out.trans g3); have R6c := Lib.hid (R6b.out.gr g3); have R8c := Lib.hid (R8.out.gr g3); have R7 := Lib.hid r7; clear g3 r7)
    | (go_at_call 9; (with_reducible refine (D9.out _ _ _ _ f _ R8c.out (HF.out.gr G3.out)).mono ?_); rintro e w4 ⟨rfl, g4⟩; have G4 := Lib.hid (G3.out.trans g4); have R6d := Lib.hid (R6c.out.gr g4); have R7d := Lib.hid (R7.out.gr g4); clear g4)
    | (go_at_call 9; (with_reducible refine (D9.out _ _ _ _ F _ R7d.out R6d.out).mono ?_); rintro e w5 ⟨rfl, g5⟩; have G5 := Lib.hid (G4.out.trans g5); clear g5)
    | (go_at_call 10; (with_reducible refine (D10c.out _ G5.out).mono ?_); rintro e w6 ⟨rfl, g6⟩; have G6 := Lib.hid (G5.out.trans g6); clear g6 D10c)
    | (go_at_call 10; (with_reducible refine (D10d.out _ G6.out).mono ?_); rintro e w7 ⟨rfl, g7⟩; have G7 := Lib.hid (G6.out.trans g7); clear g7)
    | (go_at_call 5; refine (Awake_any _).mono ?_; rintro e w22 ⟨rfl, g22⟩; have G22 := Lib.hid (G7.out.trans (g22)); clear g22))
  go_ret
  exact ⟨rfl, G22.out⟩

set_option maxHeartbeats 32000000 in
set_option maxRecDepth 100000 in
theorem mid_fc (b lo sp : Int) (a1 a2 a3 : Option Addr) (nr c1 n c2 n' c3 : Nat) (F : Nat → Int) (w : World) {E : Int}
    (DL1 : Hid (∀ wx, Calls Tryz.prog 4 #[.slice a2 n c2] wx fun e w' => e = .returned (.bool false) ∧ wx = w'))
    (DL2 : Hid (∀ wx, Calls Tryz.prog 4 #[.slice a3 n' c3] wx fun e w' => e = .returned (.bool false) ∧ wx = w'))
    (D6 : Hid (∀ wx, Gr w wx → Calls Tryz.prog 6 #[.int .i64 b, .slice a1 nr c1] wx (RetIs 0 F E wx)))
    (_hE : ¬ E = 0) (hE2 : (E == 0) = false)
    (D7 : Hid (∀ wx, Gr w wx → Calls Tryz.prog 7 #[.int .i64 b, .slice a1 nr c1] wx fun e w' => e = .returned (.bool false) ∧ wx = w'))
    (D10c : Hid (∀ wx, Gr w wx → Calls Tryz.prog 10 #[.slice a2 n c2] wx (RetB false wx)))
    (n1 : ¬ (nr : Int) > 200) :
    Calls Tryz.prog 3 #[.int .i64 b, .slice a1 nr c1, .slice a2 n c2, .slice a3 n' c3, .int .u32 lo, .int .u8 sp] w (RetB true w) := by
  go_enter Tryz.func3, Tryz.ntmps3
  go_wp2_with (first
    | (go_at_call 4; (with_reducible refine (DL1.out _).mono ?_); rintro e u1 ⟨rfl, rfl⟩)
    | (go_at_call 4; (with_reducible refine (DL2.out _).mono ?_); rintro e u2 ⟨rfl, rfl⟩)
    | (go_at_call 6; (with_reducible refine (D6.out _ (Gr.refl _)).mono ?_); rintro e w5 ⟨a6, c6, rfl, _, _, _, g1⟩; have G5 := Lib.hid g1; clear g1)
    | (go_at_call 7; (with_reducible refine (D7.out _ G5.out).mono ?_); rintro e u3 ⟨rfl, rfl⟩)
    | (go_at_call 10; (with_reducible refine (D10c.out _ G5.out).mono ?_); rintro e w6 ⟨rfl, g6⟩; have G6 := Lib.hid (G5.out.trans g6); clear g6 D10c)
    | (go_at_call 5; refine (Awake_any _).mono ?_; rintro e w22 ⟨rfl, g22⟩; have G22 := Lib.hid (G6.out.trans (g22)); clear g22))
  go_ret
  exact ⟨rfl, G22.out⟩

set_option maxHeartbeats 32000000 in
set_option maxRecDepth 100000 in
theorem mid_fd (b lo sp : Int) (a1 a2 a3 : Option Addr) (nr c1 n c2 n' c3 : Nat) (F : Nat → Int) (w : World) {E : Int}
    (DL1 : Hid (∀ wx, Calls Tryz.prog 4 #[.slice a2 n c2] wx fun e w' => e = .returned (.bool false) ∧ wx = w'))
    (DL2 : Hid (∀ wx, Calls Tryz.prog 4 #[.slice a3 n' c3] wx fun e w' => e = .returned (.bool false) ∧ wx = w'))
    (D6 : Hid (∀ wx, Gr w wx → Calls Tryz.prog 6 #[.int .i64 b, .slice a1 nr c1] wx (RetIs 0 F E wx)))
    (_hE : ¬ E = 0) (hE2 : (E == 0) = false)
    (D7 : Hid (∀ wx, Gr w wx → Calls Tryz.prog 7 #[.int .i64 b, .slice a1 nr c1] wx fun e w' => e = .returned (.bool false) ∧ wx = w'))
    (D10c : Hid (∀ wx, Gr w wx → Calls Tryz.prog 10 #[.slice a2 n c2] wx (RetB true wx)))
    (D10d : Hid (∀ wx, Gr w wx → Calls Tryz.prog 10 #[.slice a3 n' c3] wx (RetB false wx)))
    (n1 : ¬ (nr : Int) > 200) :
    Calls Tryz.prog 3 #[.int .i64 b, .slice a1 nr c1, .slice a2 n c2, .slice a3 n' c3, .int .u32 lo, .int .u8 sp] w (RetB true w) := by
  go_enter Tryz.func3, Tryz.ntmps3
  go_wp2_with (first
    | (go_at_call 4; (with_reducible refine (DL1.out _).mono ?_); rintro e u1 ⟨rfl, rfl⟩)
    | (go_at_call 4; (with_reducible refine (DL2.out _).mono ?_); rintro e u2 ⟨rfl, rfl⟩)
    | (go_at_call 6; (with_reducible refine (D6.out _ (Gr.refl _)).mono ?_); rintro e w5 ⟨a6, c6, rfl, _, _, _, g1⟩; have G5 := Lib.hid g1; clear g1)
    | (go_at_call 7; (with_reducible refine (D7.out _ G5.out).mono ?_); rintro e u3 ⟨rfl, rfl⟩)
    | (go_at_call 10; (with_reducible refine (D10c.out _ G5.out).mono ?_); rintro e w6 ⟨rfl, g6⟩; have G6 := Lib.hid (G5.out.trans g6); clear g6 D10c)
    | (go_at_call 10; (with_reducible refine (D10d.out _ G6.out).mono ?_); rintro e w7 ⟨rfl, g7⟩; have G7 := Lib.hid (G6.out.trans g7); clear g7)
    | (go_at_call 5; refine (Awake_any _).mono ?_; rintro e w22 ⟨rfl, g22⟩; have G22 := Lib.hid (G7.out.trans (g22)); clear g22))
  go_ret
  exact ⟨rfl, G22.out⟩
end Go.Proofs.YtdlbgelidcfmiaaGreatDoor.topTick

