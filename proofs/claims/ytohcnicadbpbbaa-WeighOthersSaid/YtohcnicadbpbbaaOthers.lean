/- Proved: WeighOthers returns true at all odds and every two ints, and its arguments read afterwards as before. Conditions: none. -/
import Derived.Test.YtohcnicadbpbbaaWS
import Derived.Test.YtohcnicadbpbbaaWT
import Derived.Test.YtohcnicadbpbbaaWD
import Derived.Test.YtohcnicadbpbbaaWo
import Derived.ProofKit
import Derived.OpenShut
import Derived.ShutString
import Derived.ChangeOld
import Derived.Below
namespace Go.Proofs.Ytohcnicadbpbbaa
open Go.RowKit Go.Firn

section
variable {a b a3 b3 : Option Addr} {n c m d n3 c3 m3 d3 : Nat} {f g u v : Nat → Int} {w : World}
/-- The program and the reference tell the same odds. -/
def BothD (P Q : Nat) (args : Array Value) (w : World) : Prop := ∃ (N M : Nat) (F G : Nat → Int) (E : Int), N ≤ 1000 ∧ M ≤ 1000 ∧ (∀ w1, Gr w w1 → Calls Try.prog P args w1 (RetD N M F G E w1)) ∧ (∀ w1, Gr w w1 → Calls Try.prog Q args w1 (RetD N M F G E w1))
theorem merged_both (hn : n ≤ 60) (hm : m ≤ 60) (hr : RdI w a n f) (hs : RdI w b m g) (x y : Int) : BothD 26 27 #[.agg #[.slice a n c, .slice b m d], .int .i64 x, .int .i64 y] w := by
  cases hv : vO n m f g with
  | false => exact ⟨0, 0, _, _, 70, by omega, by omega, fun w1 k => Merged_no a b n c m d f g w1 (by omega) (by omega) (hr.gr k) (hs.gr k) x y hv, fun w1 k => refMerged_no a b n c m d f g w1 (by omega) (by omega) (hr.gr k) (hs.gr k) x y hv⟩
  | true =>
    by_cases hb : mgOk n x y
    · have V := vO_iff.1 hv
      obtain rfl := V.same
      obtain ⟨h0, h1, h2⟩ := hb
      obtain ⟨i, rfl⟩ := Int.eq_ofNat_of_zero_le h0
      obtain ⟨j, rfl⟩ := Int.eq_ofNat_of_zero_le (show 0 ≤ y by omega)
      exact ⟨n - 1, n - 1, _, _, 0, by omega, by omega, fun w1 k => Merged_ok a b n c d f g w1 (hr.gr k) (hs.gr k) V i j (by omega) (by omega), fun w1 k => refMerged_ok a b n c d f g w1 (hr.gr k) (hs.gr k) V i j (by omega) (by omega)⟩
    · exact ⟨0, 0, _, _, 2, by omega, by omega, fun w1 k => Merged_bad a b n c m d f g w1 (by omega) (by omega) (hr.gr k) (hs.gr k) x y hv hb, fun w1 k => refMerged_bad a b n c m d f g w1 (by omega) (by omega) (hr.gr k) (hs.gr k) x y hv hb⟩
theorem swapped_both (hn : n ≤ 60) (hm : m ≤ 60) (hr : RdI w a n f) (hs : RdI w b m g) : BothD 29 30 #[.agg #[.slice a n c, .slice b m d]] w := by
  cases hv : vO n m f g with
  | false => exact ⟨0, 0, _, _, 70, by omega, by omega, fun w1 k => Swapped_no a b n c m d f g w1 (by omega) (by omega) (hr.gr k) (hs.gr k) hv, fun w1 k => refSwapped_no a b n c m d f g w1 (by omega) (by omega) (hr.gr k) (hs.gr k) hv⟩
  | true =>
    have V := vO_iff.1 hv
    obtain rfl := V.same
    exact ⟨n, n, _, _, 0, by omega, by omega, fun w1 k => Swapped_ok a b n c d f g w1 (hr.gr k) (hs.gr k) V, fun w1 k => refSwapped_ok a b n c d f g w1 (hr.gr k) (hs.gr k) V⟩
theorem two_both (hn : n ≤ 60) (hm : m ≤ 60) (hn3 : n3 ≤ 60) (hm3 : m3 ≤ 60) (hr : RdI w a n f) (hs : RdI w b m g) (ht : RdI w a3 n3 u) (hu : RdI w b3 m3 v) : BothD 16 31 #[.agg #[.slice a n c, .slice b m d], .agg #[.slice a3 n3 c3, .slice b3 m3 d3]] w := by
  cases hv : vO n m f g with
  | false => exact ⟨0, 0, _, _, 70, by omega, by omega, fun w1 k => Both_no1 a b a3 b3 n c m d n3 c3 m3 d3 f g u v w1 (by omega) (by omega) (by omega) (by omega) (hr.gr k) (hs.gr k) (ht.gr k) (hu.gr k) hv, fun w1 k => refBoth_no1 a b a3 b3 n c m d n3 c3 m3 d3 f g u v w1 (by omega) (by omega) (by omega) (by omega) (hr.gr k) (hs.gr k) (ht.gr k) (hu.gr k) hv⟩
  | true =>
    cases hv2 : vO n3 m3 u v with
    | false => exact ⟨0, 0, _, _, 70, by omega, by omega, fun w1 k => Both_no2 a b a3 b3 n c m d n3 c3 m3 d3 f g u v w1 (by omega) (by omega) (by omega) (by omega) (hr.gr k) (hs.gr k) (ht.gr k) (hu.gr k) hv hv2, fun w1 k => refBoth_no2 a b a3 b3 n c m d n3 c3 m3 d3 f g u v w1 (by omega) (by omega) (by omega) (by omega) (hr.gr k) (hs.gr k) (ht.gr k) (hu.gr k) hv hv2⟩
    | true =>
      have V := vO_iff.1 hv
      obtain rfl := V.same
      have V2 := vO_iff.1 hv2
      obtain rfl := V2.same
      have N100 : n * n3 ≤ 100 := Nat.mul_le_mul V.noise.few V2.noise.few
      cases hx : vO (n * n3) (n * n3) (pdQ f u n n3) (pdQ g v n n3) with
      | true => exact ⟨n * n3, n * n3, _, _, 0, by omega, by omega, fun w1 k => Both_fit a b a3 b3 n c d n3 c3 d3 f g u v w1 (hr.gr k) (hs.gr k) (ht.gr k) (hu.gr k) V V2 hx, fun w1 k => refBoth_fit a b a3 b3 n c d n3 c3 d3 f g u v w1 (hr.gr k) (hs.gr k) (ht.gr k) (hu.gr k) V V2 hx⟩
      | false => exact ⟨0, 0, _, _, 5, by omega, by omega, fun w1 k => Both_none a b a3 b3 n c d n3 c3 d3 f g u v w1 (hr.gr k) (hs.gr k) (ht.gr k) (hu.gr k) V V2 hx, fun w1 k => refBoth_none a b a3 b3 n c d n3 c3 d3 f g u v w1 (hr.gr k) (hs.gr k) (ht.gr k) (hu.gr k) V V2 hx⟩
end
end Go.Proofs.Ytohcnicadbpbbaa
namespace Go.Proofs.Ytohcnicadbpbbaa.weighOthers
open Go.ChangeShapes Go.WideShapes Go.ChangeAt Go.RowKit Go.Firn
open Go.ChangeMaps (open_string shut_string)

theorem own : ownKnob Try.prog.godebug = none := by kernel_rfl
theorem laidOut : laidOutB Try.prog = true := by kernel_rfl

set_option maxHeartbeats 8000000 in
set_option maxRecDepth 100000 in
theorem walk (a b : Option Addr) (n c m d : Nat) (f g : Nat → Int) (a3 b3 : Option Addr) (n3 c3 m3 d3 : Nat) (u v : Nat → Int) (x y : Int) (w : World) (_hn : n ≤ 9223372036854775807) (_hm : m ≤ 9223372036854775807) (_nc : n ≤ c) (_cl : c ≤ maxLen) (_md : m ≤ d) (_dl : d ≤ maxLen) (_fz : ∀ i, n ≤ i → f i = 0) (_gz : ∀ i, m ≤ i → g i = 0) (hr : RdI w a n f) (hs : RdI w b m g) (_hn3 : n3 ≤ 9223372036854775807) (_hm3 : m3 ≤ 9223372036854775807) (_nc3 : n3 ≤ c3) (_cl3 : c3 ≤ maxLen) (_md3 : m3 ≤ d3) (_dl3 : d3 ≤ maxLen) (_fz3 : ∀ i, n3 ≤ i → u i = 0) (_gz3 : ∀ i, m3 ≤ i → v i = 0) (ht : RdI w a3 n3 u) (hu : RdI w b3 m3 v) (_wx : (Lit.int .i64 x).wf = true) (_wy : (Lit.int .i64 y).wf = true) :
    Calls Try.prog 6 #[.agg #[.slice a n c, .slice b m d], .agg #[.slice a3 n3 c3, .slice b3 m3 d3], .int .i64 x, .int .i64 y] w (RetB true w) := by
  obtain ⟨X0, hX0⟩ : ∃ X0, (w.alloc (.cells #[.slice a n c, .slice b m d] 24)).alloc (.cells #[.slice a3 n3 c3, .slice b3 m3 d3] 24) = X0 := ⟨_, rfl⟩
  have G0 := Lib.hid (show Gr w X0 by rw [← hX0]; exact ((Gr.refl w).alloc _).alloc _)
  have BA := Lib.hid (show BoxO X0 w.heap.size (.slice a n c) (.slice b m d) by rw [← hX0]; exact (BoxO.new rfl).gr ((Gr.refl _).alloc _))
  have BB := Lib.hid (show BoxO X0 (w.heap.size + 1) (.slice a3 n3 c3) (.slice b3 m3 d3) by rw [← hX0]; exact BoxO.new (by simp))
  obtain ⟨p0, p1⟩ := BA.out
  obtain ⟨s0, s1⟩ := BB.out
  have HL := Lib.hid (fun w1 => Long_any a b n c m d w1)
  have HL2 := Lib.hid (fun w1 => Long_any a3 b3 n3 c3 m3 d3 w1)
  clear _hn _hm _nc _cl _md _dl _hn3 _hm3 _nc3 _cl3 _md3 _dl3 _fz _gz _fz3 _gz3
  cases hl : lgO n m with
  | true =>
    rw [hl] at HL
    clear hr hs hl ht hu _wx _wy
    go_enter Try.func6, Try.ntmps6
    go_wp2_with (first
      | (go_at_call 8; (with_reducible refine (HL.out _).mono ?_); rintro e W1 ⟨rfl, g1⟩; have G1 := Lib.hid (G0.out.trans g1); have BA := Lib.hid (BA.out.gr g1); have BB := Lib.hid (BB.out.gr g1); clear p0 p1 s0 s1; obtain ⟨p0, p1⟩ := BA.out; obtain ⟨s0, s1⟩ := BB.out; clear g1)
      | (go_at_call 9; refine (Awake_any _).mono ?_; rintro e w6 ⟨rfl, g6⟩))
    go_ret
    exact ⟨rfl, G1.out.trans g6⟩
  | false =>
    rw [hl] at HL
    have l60 := lgO_false.1 hl
    cases hl2 : lgO n3 m3 with
    | true =>
      rw [hl2] at HL2
      clear hr hs hl ht hu _wx _wy hl2 l60
      go_enter Try.func6, Try.ntmps6
      go_wp2_with (first
        | (go_at_call 8; (with_reducible refine (HL.out _).mono ?_); rintro e W1 ⟨rfl, g1⟩; have G1 := Lib.hid (G0.out.trans g1); have BA := Lib.hid (BA.out.gr g1); have BB := Lib.hid (BB.out.gr g1); clear p0 p1 s0 s1; obtain ⟨p0, p1⟩ := BA.out; obtain ⟨s0, s1⟩ := BB.out; clear g1)
        | (go_at_call 8; (with_reducible refine (HL2.out _).mono ?_); rintro e W2 ⟨rfl, g1⟩; have G2 := Lib.hid (G1.out.trans g1); have BA := Lib.hid (BA.out.gr g1); have BB := Lib.hid (BB.out.gr g1); clear p0 p1 s0 s1; obtain ⟨p0, p1⟩ := BA.out; obtain ⟨s0, s1⟩ := BB.out; clear g1)
        | (go_at_call 9; refine (Awake_any _).mono ?_; rintro e w6 ⟨rfl, g6⟩))
      go_ret
      exact ⟨rfl, G2.out.trans g6⟩
    | false =>
      rw [hl2] at HL2
      have l61 := lgO_false.1 hl2
      obtain ⟨N1, M1, F1, K1, E1, b1, b1', H1, H2⟩ := merged_both (c := c) (d := d) l60.1 l60.2 hr hs x y
      obtain ⟨N2, M2, F2, K2, E2, b2, b2', H3, H4⟩ := swapped_both (c := c) (d := d) l60.1 l60.2 hr hs
      obtain ⟨N3, M3, F3, K3, E3, b4, b4', H5, H6⟩ := two_both (c := c) (d := d) (c3 := c3) (d3 := d3) l60.1 l60.2 l61.1 l61.2 hr hs ht hu
      have H1 := Lib.hid H1
      have H2 := Lib.hid H2
      have H3 := Lib.hid H3
      have H4 := Lib.hid H4
      have H5 := Lib.hid H5
      have H6 := Lib.hid H6
      clear hr hs hl ht hu _wx _wy hl2 l60 l61
      go_enter Try.func6, Try.ntmps6
      go_wp2_with (first
        | (go_at_call 8; (with_reducible refine (HL.out _).mono ?_); rintro e W1 ⟨rfl, g1⟩; have G1 := Lib.hid (G0.out.trans g1); have BA := Lib.hid (BA.out.gr g1); have BB := Lib.hid (BB.out.gr g1); clear p0 p1 s0 s1; obtain ⟨p0, p1⟩ := BA.out; obtain ⟨s0, s1⟩ := BB.out; clear g1)
        | (go_at_call 8; (with_reducible refine (HL2.out _).mono ?_); rintro e W2 ⟨rfl, g1⟩; have G2 := Lib.hid (G1.out.trans g1); have BA := Lib.hid (BA.out.gr g1); have BB := Lib.hid (BB.out.gr g1); clear p0 p1 s0 s1; obtain ⟨p0, p1⟩ := BA.out; obtain ⟨s0, s1⟩ := BB.out; clear g1)
        | (go_at_call 26; (with_reducible refine (H1.out _ G2.out).mono ?_); rintro e v1 ⟨a1x, c1x, a1y, c1y, rfl, r1, q1, g1⟩; have gg := g1.alloc (.cells #[.slice a1x N1 c1x, .slice a1y M1 c1y] 24); obtain ⟨V1, hV1⟩ : ∃ V1, v1.alloc (.cells #[.slice a1x N1 c1x, .slice a1y M1 c1y] 24) = V1 := ⟨_, rfl⟩; rw [hV1] at gg; have G3 := Lib.hid (G2.out.trans gg); have BA := Lib.hid (BA.out.gr gg); have BB := Lib.hid (BB.out.gr gg); have BX := Lib.hid (show Box2v V1 v1.heap.size (.slice a1x N1 c1x) (.slice a1y M1 c1y) by rw [← hV1]; exact Box2v.new rfl); have RX := Lib.hid (show RdI V1 a1x N1 F1 by rw [← hV1]; exact r1.gr ((Gr.refl _).alloc _)); have SX := Lib.hid (show RdI V1 a1y M1 K1 by rw [← hV1]; exact q1.gr ((Gr.refl _).alloc _)); have NX : w.heap.size + 1 < v1.heap.size := Nat.lt_of_lt_of_le (World.block_lt_of_cell? _ _ s0) (Gr.size g1); clear p0 p1 s0 s1; (try clear z0 z1); obtain ⟨p0, p1⟩ := BA.out; obtain ⟨s0, s1⟩ := BB.out; obtain ⟨x0, x1, x2, x3⟩ := BX.out; clear gg g1 r1 q1)
        | (go_at_call 27; (with_reducible refine (H2.out _ G3.out).mono ?_); rintro e v2 ⟨a2x, c2x, a2y, c2y, rfl, r2, q2, g2⟩; have gg := g2.alloc (.cells #[.slice a2x N1 c2x, .slice a2y M1 c2y] 24); obtain ⟨V2, hV2⟩ : ∃ V2, v2.alloc (.cells #[.slice a2x N1 c2x, .slice a2y M1 c2y] 24) = V2 := ⟨_, rfl⟩; rw [hV2] at gg; have G4 := Lib.hid (G3.out.trans gg); have BA := Lib.hid (BA.out.gr gg); have BB := Lib.hid (BB.out.gr gg); have BX := Lib.hid (BX.out.gr gg); have RX := Lib.hid (RX.out.gr gg); have SX := Lib.hid (SX.out.gr gg); have BY := Lib.hid (show Box2v V2 v2.heap.size (.slice a2x N1 c2x) (.slice a2y M1 c2y) by rw [← hV2]; exact Box2v.new rfl); have RY := Lib.hid (show RdI V2 a2x N1 F1 by rw [← hV2]; exact r2.gr ((Gr.refl _).alloc _)); have SY := Lib.hid (show RdI V2 a2y M1 K1 by rw [← hV2]; exact q2.gr ((Gr.refl _).alloc _)); have NY : v1.heap.size < v2.heap.size := Nat.lt_of_lt_of_le (World.block_lt_of_cell? _ _ x0) (Gr.size g2); clear p0 p1 s0 s1; (try clear z0 z1); obtain ⟨p0, p1⟩ := BA.out; obtain ⟨s0, s1⟩ := BB.out; (try clear x0 x1 x2 x3); obtain ⟨x0, x1, x2, x3⟩ := BX.out; obtain ⟨y0, y1, y2, y3⟩ := BY.out; clear gg g2 r2 q2)
        | (go_at_call 28; (with_reducible refine (Same_any _ _ _ _ _ _ _ _ _ _ F1 K1 _ b1 b1' RX.out SX.out RY.out SY.out).mono ?_); rintro e v3 ⟨rfl, g3⟩; have G5 := Lib.hid (G4.out.trans g3); have BA := Lib.hid (BA.out.gr g3); have BB := Lib.hid (BB.out.gr g3); have BX := Lib.hid (BX.out.gr g3); have BY := Lib.hid (BY.out.gr g3); clear p0 p1 s0 s1; (try clear z0 z1); obtain ⟨p0, p1⟩ := BA.out; obtain ⟨s0, s1⟩ := BB.out; (try clear x0 x1 x2 x3); (try clear y0 y1 y2 y3); obtain ⟨x0, x1, x2, x3⟩ := BX.out; obtain ⟨y0, y1, y2, y3⟩ := BY.out; clear g3)
        | (go_at_call 29; (with_reducible refine (H3.out _ G5.out).mono ?_); rintro e v4 ⟨a4x, c4x, a4y, c4y, rfl, r4, q4, g4⟩; have BA := Lib.hid (BA.out.gr g4); have BB := Lib.hid (BB.out.gr g4); have BX := Lib.hid (BX.out.gr g4); have BY := Lib.hid (BY.out.gr g4); obtain ⟨V4, hV4⟩ : ∃ V4, (v4.setCell ⟨v1.heap.size, 0, none⟩ (.slice a4x N2 c4x)).setCell ⟨v1.heap.size, 1, none⟩ (.slice a4y M2 c4y) = V4 := ⟨_, rfl⟩; have G6 := Lib.hid (show Gr w V4 by rw [← hV4]; exact ((G5.out.trans g4).setAt (by omega) _).setAt (by omega) _); have RX := Lib.hid (show RdI V4 a4x N2 F2 by rw [← hV4]; exact r4.put BX.out _ _); have SX := Lib.hid (show RdI V4 a4y M2 K2 by rw [← hV4]; exact q4.put BX.out _ _); have BY := Lib.hid (show Box2v V4 _ _ _ by rw [← hV4]; exact BY.out.far (by omega) _ _); have BA := Lib.hid (show BoxO V4 w.heap.size (.slice a n c) (.slice b m d) by rw [← hV4]; exact ⟨cell_far (cell_far BA.out.1 (by omega) _) (by omega) _, cell_far (cell_far BA.out.2 (by omega) _) (by omega) _⟩); have BB := Lib.hid (show BoxO V4 (w.heap.size + 1) (.slice a3 n3 c3) (.slice b3 m3 d3) by rw [← hV4]; exact ⟨cell_far (cell_far BB.out.1 (by omega) _) (by omega) _, cell_far (cell_far BB.out.2 (by omega) _) (by omega) _⟩); clear p0 p1 s0 s1; obtain ⟨p0, p1⟩ := BA.out; obtain ⟨s0, s1⟩ := BB.out; (try clear x0 x1 x2 x3); (try clear y0 y1 y2 y3); obtain ⟨x0, x1, x2, x3⟩ := BX.out; have BX := Lib.hid (show Box2v V4 v1.heap.size (.slice a4x N2 c4x) (.slice a4y M2 c4y) by rw [← hV4]; exact BX.out.put _ _); clear g4 r4 q4)
        | (go_at_call 30; (with_reducible refine (H4.out _ G6.out).mono ?_); rintro e v5 ⟨a5x, c5x, a5y, c5y, rfl, r5, q5, g5⟩; have BA := Lib.hid (BA.out.gr g5); have BB := Lib.hid (BB.out.gr g5); have BX := Lib.hid (BX.out.gr g5); have BY := Lib.hid (BY.out.gr g5); obtain ⟨V5, hV5⟩ : ∃ V5, (v5.setCell ⟨v2.heap.size, 0, none⟩ (.slice a5x N2 c5x)).setCell ⟨v2.heap.size, 1, none⟩ (.slice a5y M2 c5y) = V5 := ⟨_, rfl⟩; have G7 := Lib.hid (show Gr w V5 by rw [← hV5]; exact ((G6.out.trans g5).setAt (by omega) _).setAt (by omega) _); have RX := Lib.hid (show RdI V5 a4x N2 F2 by rw [← hV5]; exact (RX.out.gr g5).put BY.out _ _); have SX := Lib.hid (show RdI V5 a4y M2 K2 by rw [← hV5]; exact (SX.out.gr g5).put BY.out _ _); have RY := Lib.hid (show RdI V5 a5x N2 F2 by rw [← hV5]; exact r5.put BY.out _ _); have SY := Lib.hid (show RdI V5 a5y M2 K2 by rw [← hV5]; exact q5.put BY.out _ _); have BX := Lib.hid (show Box2v V5 _ _ _ by rw [← hV5]; exact BX.out.far (by omega) _ _); have BA := Lib.hid (show BoxO V5 w.heap.size (.slice a n c) (.slice b m d) by rw [← hV5]; exact ⟨cell_far (cell_far BA.out.1 (by omega) _) (by omega) _, cell_far (cell_far BA.out.2 (by omega) _) (by omega) _⟩); have BB := Lib.hid (show BoxO V5 (w.heap.size + 1) (.slice a3 n3 c3) (.slice b3 m3 d3) by rw [← hV5]; exact ⟨cell_far (cell_far BB.out.1 (by omega) _) (by omega) _, cell_far (cell_far BB.out.2 (by omega) _) (by omega) _⟩); clear p0 p1 s0 s1; obtain ⟨p0, p1⟩ := BA.out; obtain ⟨s0, s1⟩ := BB.out; (try clear x0 x1 x2 x3); (try clear y0 y1 y2 y3); obtain ⟨y0, y1, y2, y3⟩ := BY.out; have BY := Lib.hid (show Box2v V5 v2.heap.size (.slice a5x N2 c5x) (.slice a5y M2 c5y) by rw [← hV5]; exact BY.out.put _ _); obtain ⟨x0, x1, x2, x3⟩ := BX.out; obtain ⟨z0, z1, _⟩ := BY.out; clear g5 r5 q5)
        | (go_at_call 28; (with_reducible refine (Same_any _ _ _ _ _ _ _ _ _ _ F2 K2 _ b2 b2' RX.out SX.out RY.out SY.out).mono ?_); rintro e v6 ⟨rfl, g6⟩; have G8 := Lib.hid (G7.out.trans g6); have BA := Lib.hid (BA.out.gr g6); have BB := Lib.hid (BB.out.gr g6); have BX := Lib.hid (BX.out.gr g6); have BY := Lib.hid (BY.out.gr g6); clear p0 p1 s0 s1; (try clear z0 z1); obtain ⟨p0, p1⟩ := BA.out; obtain ⟨s0, s1⟩ := BB.out; (try clear x0 x1 x2 x3); (try clear y0 y1 y2 y3); obtain ⟨x0, x1, x2, x3⟩ := BX.out; obtain ⟨y0, y1, y2, y3⟩ := BY.out; clear g6)
        | (go_at_call 16; (with_reducible refine (H5.out _ G8.out).mono ?_); rintro e v7 ⟨a7x, c7x, a7y, c7y, rfl, r7, q7, g7⟩; have BA := Lib.hid (BA.out.gr g7); have BB := Lib.hid (BB.out.gr g7); have BX := Lib.hid (BX.out.gr g7); have BY := Lib.hid (BY.out.gr g7); obtain ⟨V7, hV7⟩ : ∃ V7, (v7.setCell ⟨v1.heap.size, 0, none⟩ (.slice a7x N3 c7x)).setCell ⟨v1.heap.size, 1, none⟩ (.slice a7y M3 c7y) = V7 := ⟨_, rfl⟩; have G9 := Lib.hid (show Gr w V7 by rw [← hV7]; exact ((G8.out.trans g7).setAt (by omega) _).setAt (by omega) _); have RX := Lib.hid (show RdI V7 a7x N3 F3 by rw [← hV7]; exact r7.put BX.out _ _); have SX := Lib.hid (show RdI V7 a7y M3 K3 by rw [← hV7]; exact q7.put BX.out _ _); have BY := Lib.hid (show Box2v V7 _ _ _ by rw [← hV7]; exact BY.out.far (by omega) _ _); have BA := Lib.hid (show BoxO V7 w.heap.size (.slice a n c) (.slice b m d) by rw [← hV7]; exact ⟨cell_far (cell_far BA.out.1 (by omega) _) (by omega) _, cell_far (cell_far BA.out.2 (by omega) _) (by omega) _⟩); have BB := Lib.hid (show BoxO V7 (w.heap.size + 1) (.slice a3 n3 c3) (.slice b3 m3 d3) by rw [← hV7]; exact ⟨cell_far (cell_far BB.out.1 (by omega) _) (by omega) _, cell_far (cell_far BB.out.2 (by omega) _) (by omega) _⟩); clear p0 p1 s0 s1; obtain ⟨p0, p1⟩ := BA.out; obtain ⟨s0, s1⟩ := BB.out; (try clear x0 x1 x2 x3); (try clear y0 y1 y2 y3); obtain ⟨x0, x1, x2, x3⟩ := BX.out; have BX := Lib.hid (show Box2v V7 v1.heap.size (.slice a7x N3 c7x) (.slice a7y M3 c7y) by rw [← hV7]; exact BX.out.put _ _); clear g7 r7 q7)
        | (go_at_call 31; (with_reducible refine (H6.out _ G9.out).mono ?_); rintro e v8 ⟨a8x, c8x, a8y, c8y, rfl, r8, q8, g8⟩; have BA := Lib.hid (BA.out.gr g8); have BB := Lib.hid (BB.out.gr g8); have BX := Lib.hid (BX.out.gr g8); have BY := Lib.hid (BY.out.gr g8); obtain ⟨V8, hV8⟩ : ∃ V8, (v8.setCell ⟨v2.heap.size, 0, none⟩ (.slice a8x N3 c8x)).setCell ⟨v2.heap.size, 1, none⟩ (.slice a8y M3 c8y) = V8 := ⟨_, rfl⟩; have G10 := Lib.hid (show Gr w V8 by rw [← hV8]; exact ((G9.out.trans g8).setAt (by omega) _).setAt (by omega) _); have RX := Lib.hid (show RdI V8 a7x N3 F3 by rw [← hV8]; exact (RX.out.gr g8).put BY.out _ _); have SX := Lib.hid (show RdI V8 a7y M3 K3 by rw [← hV8]; exact (SX.out.gr g8).put BY.out _ _); have RY := Lib.hid (show RdI V8 a8x N3 F3 by rw [← hV8]; exact r8.put BY.out _ _); have SY := Lib.hid (show RdI V8 a8y M3 K3 by rw [← hV8]; exact q8.put BY.out _ _); have BX := Lib.hid (show Box2v V8 _ _ _ by rw [← hV8]; exact BX.out.far (by omega) _ _); have BA := Lib.hid (show BoxO V8 w.heap.size (.slice a n c) (.slice b m d) by rw [← hV8]; exact ⟨cell_far (cell_far BA.out.1 (by omega) _) (by omega) _, cell_far (cell_far BA.out.2 (by omega) _) (by omega) _⟩); have BB := Lib.hid (show BoxO V8 (w.heap.size + 1) (.slice a3 n3 c3) (.slice b3 m3 d3) by rw [← hV8]; exact ⟨cell_far (cell_far BB.out.1 (by omega) _) (by omega) _, cell_far (cell_far BB.out.2 (by omega) _) (by omega) _⟩); clear p0 p1 s0 s1; obtain ⟨p0, p1⟩ := BA.out; obtain ⟨s0, s1⟩ := BB.out; (try clear x0 x1 x2 x3); (try clear y0 y1 y2 y3); obtain ⟨y0, y1, y2, y3⟩ := BY.out; have BY := Lib.hid (show Box2v V8 v2.heap.size (.slice a8x N3 c8x) (.slice a8y M3 c8y) by rw [← hV8]; exact BY.out.put _ _); obtain ⟨x0, x1, x2, x3⟩ := BX.out; obtain ⟨z0, z1, _⟩ := BY.out; clear g8 r8 q8)
        | (go_at_call 28; (with_reducible refine (Same_any _ _ _ _ _ _ _ _ _ _ F3 K3 _ b4 b4' RX.out SX.out RY.out SY.out).mono ?_); rintro e v9 ⟨rfl, g9⟩; have G11 := Lib.hid (G10.out.trans g9); have BA := Lib.hid (BA.out.gr g9); have BB := Lib.hid (BB.out.gr g9); have BX := Lib.hid (BX.out.gr g9); have BY := Lib.hid (BY.out.gr g9); clear p0 p1 s0 s1; (try clear z0 z1); obtain ⟨p0, p1⟩ := BA.out; obtain ⟨s0, s1⟩ := BB.out; (try clear x0 x1 x2 x3); (try clear y0 y1 y2 y3); obtain ⟨x0, x1, x2, x3⟩ := BX.out; obtain ⟨y0, y1, y2, y3⟩ := BY.out; clear g9)
        | (go_at_call 9; refine (Awake_any _).mono ?_; rintro e w6 ⟨rfl, g6⟩))
      go_ret
      exact ⟨rfl, G11.out.trans g6⟩
set_option maxRecDepth 100000 in
theorem lifted (os : Os) (started : os.Started) (H : Type) (enc : TypeId × Value → H) :
    ReturnsInHanded {} Try.checked os 6 .any (Rows.weighOthersSpec.pre6 enc Try.prog Try.f6 Rows.weighOthersRow.domain false) (Rows.weighOthersSpec.post enc Try.prog Try.f6 false true false false) := by
  refine returnsInHanded_of_change (C := Try.checked) own started (by kernel_rfl) Try.func6
    (ChangeSpec.witness6 (enc := enc) (C := Try.checked) false ⟨#[], #[.agg #[.slice none 0 0, .slice none 0 0], .agg #[.slice none 0 0, .slice none 0 0], .int .i64 0, .int .i64 0], []⟩ 8 (by kernel_rfl) (by kernel_rfl) (by kernel_rfl) (by kernel_rfl)) ?_
  intro W base args ds gs before hval0 hW hcnd _
  have hval : ∀ (j : Nat) t v, Try.f6.params[j]? = some t → args[j]? = some v → Value.okWide Try.prog W .any base t v := hval0
  have hW' := hW
  obtain ⟨p, q, hA0, hV, rfl, hfz, hnd⟩ := hW
  have hA : DataW.TrodAll enc Try.prog W 0 (fun _ => true) true Try.f6.params.toList args.toList ds p := hA0
  rw [Try.params6] at hA hval
  obtain ⟨v0, vs0, d0, ds0, p0, q0, hargs, rfl, rfl, h0, r0⟩ := trodAll_cons hA
  obtain ⟨v1, vs1, d1, ds1, p1, q1, rfl, rfl, rfl, h1, r1⟩ := trodAll_cons r0
  obtain ⟨v2, vs2, d2, ds2, p2, q2, rfl, rfl, rfl, h2, r2⟩ := trodAll_cons r1
  obtain ⟨v3, vs3, d3, ds3, p3, q3, rfl, rfl, rfl, h3, r3⟩ := trodAll_cons r2
  obtain ⟨rfl, rfl, rfl⟩ := trodAll_nil r3
  obtain rfl : args = #[v0, v1, v2, v3] := by cases args; simp_all
  obtain ⟨rfl, rfl⟩ := trodVars_none hV
  have k0 := h0
  have lt0 : ∀ x ∈ p0, x.block < W.heap.size := by obtain ⟨m, hm⟩ := k0; exact DataW.trod_lt m _ _ _ hm
  obtain ⟨a0, n0, c0, z0, b0, m0, e0, y0, rfl, wa0, wb0⟩ := open_two Try.underlying24 (by kernel_rfl) (by kernel_rfl) rfl rfl Try.underlying22 Try.underlying3 (by kernel_rfl) (hval 0 24 v0 rfl rfl) h0
  obtain ⟨hn0, nc0, cl0, f0, fz0, fr0⟩ := wa0.clip
  obtain ⟨hm0, md0, dl0, g0, gz0, gr0⟩ := wb0.clip
  have k1 := h1
  have lt1 : ∀ x ∈ p1, x.block < W.heap.size := by obtain ⟨m, hm⟩ := k1; exact DataW.trod_lt m _ _ _ hm
  obtain ⟨a1, n1, c1, z1, b1, m1, e1, y1, rfl, wa1, wb1⟩ := open_two Try.underlying24 (by kernel_rfl) (by kernel_rfl) rfl rfl Try.underlying22 Try.underlying3 (by kernel_rfl) (hval 1 24 v1 rfl rfl) h1
  obtain ⟨hn1, nc1, cl1, f1, fz1, fr1⟩ := wa1.clip
  obtain ⟨hm1, md1, dl1, g1, gz1, gr1⟩ := wb1.clip
  obtain ⟨a2, rfl, rfl, rfl, w2⟩ := open_int Try.underlying3 (hval 2 3 v2 rfl rfl) h2
  obtain ⟨a3, rfl, rfl, rfl, w3⟩ := open_int Try.underlying3 (hval 3 3 v3 rfl rfl) h3
  clear hA0 hval0
  refine (walk a0 b0 n0 c0 m0 e0 f0 g0 a1 b1 n1 c1 m1 e1 f1 g1 a2 a3 W hn0 hm0 nc0 cl0 md0 dl0 fz0 gz0 fr0 gr0 hn1 hm1 nc1 cl1 md1 dl1 fz1 gz1 fr1 gr1 w2 w3).mono fun e W' ⟨he, bel⟩ => ?_
  subst he
  exact ⟨_, rfl, _, _, _, [], _, [], hW', trodAll_mk1 (shut_bool Try.underlying4 _), (trodAll_cons_mk (Below.trod laidOut (by kernel_rfl) (of_decide_eq_true (by kernel_rfl)) k0 bel lt0) (trodAll_cons_mk (Below.trod laidOut (by kernel_rfl) (of_decide_eq_true (by kernel_rfl)) k1 bel lt1) (trodAll_cons_mk (shut_int Try.underlying3 w2) (trodAll_cons_mk (shut_int Try.underlying3 w3) trodAll_mk0)))), rfl, bel.frame _, fun h => by cases h⟩

theorem over : Rows.weighOthersRow.holds Try.pinned (OpenSpec.ofChange Rows.weighOthersSpec) :=
  OpenClaim.holds_of_wide 6 Try.f6 rfl rfl rfl rfl rfl rfl rfl ⟨rfl, rfl, rfl, rfl, rfl⟩ rfl rfl rfl rfl rfl (by kernel_rfl) Try.func6 (by kernel_rfl)
    (of_decide_eq_true (by kernel_rfl)) (by unfold Func.isWrapper; first | (rw [if_pos (by decide +kernel)]; kernel_rfl) | (rw [if_neg (by decide +kernel)]; exact ⟨rfl, rfl⟩))
    (fun os started H enc _ => lifted os started H enc)

/-- The statement. -/
theorem proved : Rows.WeighOthersSaid := over
end Go.Proofs.Ytohcnicadbpbbaa.weighOthers
