/- The walk of WeighGains: it returns true at all odds, cuts and prices. -/
import Derived.Test.YtohcnicadbpbbaaDoorXG
import Derived.Test.YtohcnicadbpbbaaDoorXW
import Derived.Test.YtohcnicadbpbbaaDoorWD
namespace Go.Proofs.YtohcnicadbpbbaaDoor
open Go.RowKit Go.Firn

section
variable {a b a3 : Option Addr} {n c m d q c3 : Nat} {f g h : Nat → Int} {P D : Int} {w : World}
theorem top_is (n : Nat) (f g : Nat → Int) (P D : Int) : IsBest (2 ^ n) (fun _ => true) (gS f g n P D) (cS n) (drB f g n P D) := bestR_best rfl
theorem gS_top {s : Nat} (hs : s < 2 ^ n) : gS f g n P D s ≤ topV f g n P D := by
  unfold topV
  rcases (top_is n f g P D).top s hs rfl with h | ⟨h, _⟩ <;> omega
theorem gnV_top (C : Cut n q h) : gnV f g n P D h q ≤ topV f g n P D := by rw [gnV_cut C]; exact gS_top (cutS_lt C)
/-- Both tell the same ratio. -/
def BothR (A B : Nat) (args : Array Value) (w : World) : Prop := ∃ X Y E : Int, (∀ w1, Gr w w1 → Calls Tryd.prog A args w1 (RetRE X Y E w1)) ∧ (∀ w1, Gr w w1 → Calls Tryd.prog B args w1 (RetRE X Y E w1))
def BothI (A B : Nat) (args : Array Value) (w : World) : Prop := ∃ (N : Nat) (F : Nat → Int) (E : Int), N ≤ 1000 ∧ (∀ w1, Gr w w1 → Calls Tryd.prog A args w1 (RetIs N F E w1)) ∧ (∀ w1, Gr w w1 → Calls Tryd.prog B args w1 (RetIs N F E w1))
def BothB (A B : Nat) (args : Array Value) (w : World) : Prop := ∃ (x : Bool) (E : Int), (∀ w1, Gr w w1 → Calls Tryd.prog A args w1 (RetBE x E w1)) ∧ (∀ w1, Gr w w1 → Calls Tryd.prog B args w1 (RetBE x E w1))
theorem gain_both (hn : n ≤ 60) (hm : m ≤ 60) (hq : q ≤ 60) (hr : RdI w a n f) (hs : RdI w b m g) (ht : RdI w a3 q h) : BothR 10 11 #[.agg #[.slice a n c, .slice b m d], .slice a3 q c3, .agg #[.int .i64 P, .int .i64 D]] w := by
  by_cases hE : prE n m f g q h P D = 0
  · obtain ⟨hv, hc, hp⟩ := prE_zero hE
    have V := vO_iff.1 hv
    obtain rfl := V.same
    have C := cutB_iff.1 hc
    have R := prB_iff.1 hp
    exact ⟨_, _, 0, fun w1 k => Gain_ok a b a3 n c d q c3 f g h P D w1 (hr.gr k) (hs.gr k) (ht.gr k) V C R, fun w1 k => refGain_ok a b a3 n c d q c3 f g h P D w1 (hr.gr k) (hs.gr k) (ht.gr k) V C R⟩
  · exact ⟨0, 0, _, fun w1 k => Gain_err a b a3 n c m d q c3 f g h P D w1 (by omega) (by omega) (by omega) (hr.gr k) (hs.gr k) (ht.gr k) hE, fun w1 k => refGain_err a b a3 n c m d q c3 f g h P D w1 (by omega) (by omega) (by omega) (hr.gr k) (hs.gr k) (ht.gr k) hE⟩
theorem dear_both (hT : Tab w) (hn : n ≤ 60) (hm : m ≤ 60) (hr : RdI w a n f) (hs : RdI w b m g) : BothI 12 13 #[.agg #[.slice a n c, .slice b m d], .agg #[.int .i64 P, .int .i64 D]] w := by
  by_cases hE : deE n m f g P D = 0
  · obtain ⟨hv, hc, hp⟩ := prE_zero hE
    have V := vO_iff.1 hv
    obtain rfl := V.same
    have R := prB_iff.1 hp
    have l := cS_len (n := n) (drB f g n P D)
    have := V.noise.few
    exact ⟨_, _, 0, by omega, fun w1 k => Dearest_ok a b n c d f g P D w1 (hr.gr k) (hs.gr k) V R (hT.gr k), fun w1 k => refDearest_ok a b n c d f g P D w1 (hr.gr k) (hs.gr k) V R⟩
  · exact ⟨0, _, _, by omega, fun w1 k => Dearest_err a b n c m d f g P D w1 (by omega) (by omega) (hr.gr k) (hs.gr k) hE, fun w1 k => refDearest_err a b n c m d f g P D w1 (by omega) (by omega) (hr.gr k) (hs.gr k) hE⟩
theorem prov_both (hT : Tab w) (hn : n ≤ 60) (hm : m ≤ 60) (hq : q ≤ 60) (hr : RdI w a n f) (hs : RdI w b m g) (ht : RdI w a3 q h) : BothB 14 15 #[.agg #[.slice a n c, .slice b m d], .slice a3 q c3, .agg #[.int .i64 P, .int .i64 D]] w := by
  by_cases hE : prE n m f g q h P D = 0
  · obtain ⟨hv, hc, hp⟩ := prE_zero hE
    have V := vO_iff.1 hv
    obtain rfl := V.same
    have C := cutB_iff.1 hc
    have R := prB_iff.1 hp
    have e : decide (gnV f g n P D h q ≥ topV f g n P D) = (gnV f g n P D h q == topV f g n P D) := by
      have := gnV_top (f := f) (g := g) (P := P) (D := D) C
      rw [Bool.beq_eq_decide_eq]
      exact decide_eq_decide.2 (by omega)
    exact ⟨_, 0, fun w1 k => Proves_ok a b a3 n c d q c3 f g h P D w1 (hr.gr k) (hs.gr k) (ht.gr k) V C R (hT.gr k), fun w1 k => by rw [← e]; exact refProves_ok a b a3 n c d q c3 f g h P D w1 (hr.gr k) (hs.gr k) (ht.gr k) V C R⟩
  · exact ⟨false, _, fun w1 k => Proves_err a b a3 n c m d q c3 f g h P D w1 (by omega) (by omega) (by omega) (hr.gr k) (hs.gr k) (ht.gr k) hE, fun w1 k => refProves_err a b a3 n c m d q c3 f g h P D w1 (by omega) (by omega) (by omega) (hr.gr k) (hs.gr k) (ht.gr k) hE⟩
end

set_option maxHeartbeats 8000000 in
set_option maxRecDepth 100000 in
theorem gains_walk (a b : Option Addr) (n c m d : Nat) (f g : Nat → Int) (a3 : Option Addr) (q c3 : Nat) (h : Nat → Int) (P D : Int) (w : World) (_hn : n ≤ 9223372036854775807) (_hm : m ≤ 9223372036854775807) (_nc : n ≤ c) (_cl : c ≤ maxLen) (_md : m ≤ d) (_dl : d ≤ maxLen) (_fz : ∀ i, n ≤ i → f i = 0) (_gz : ∀ i, m ≤ i → g i = 0) (hr : RdI w a n f) (hs : RdI w b m g) (_hq3 : q ≤ 9223372036854775807) (_qc3 : q ≤ c3) (_cl3 : c3 ≤ maxLen) (ht3 : RdI w a3 q h) (_wP : (Lit.int .i64 P).wf = true) (_wD : (Lit.int .i64 D).wf = true) (hT : Tab w) :
    Calls Tryd.prog 3 #[.agg #[.slice a n c, .slice b m d], .slice a3 q c3, .agg #[.int .i64 P, .int .i64 D]] w (RetB true w) := by
  obtain ⟨X0, hX0⟩ : ∃ X0, (w.alloc (.cells #[.slice a n c, .slice b m d] 24)).alloc (.cells #[.int .i64 P, .int .i64 D] 26) = X0 := ⟨_, rfl⟩
  have G0 := Lib.hid (show Gr w X0 by rw [← hX0]; exact ((Gr.refl w).alloc _).alloc _)
  have BA := Lib.hid (show BoxO X0 w.heap.size (.slice a n c) (.slice b m d) by rw [← hX0]; exact (BoxO.new rfl).gr ((Gr.refl _).alloc _))
  have BB := Lib.hid (show Box2 X0 (w.heap.size + 1) P D by rw [← hX0]; exact Box2.new (by simp))
  obtain ⟨p0, p1⟩ := BA.out
  obtain ⟨s0, s1, _⟩ := BB.out
  have HL := Lib.hid (fun w1 => Long_any a b n c m d w1)
  clear _hn _hm _nc _cl _md _dl _qc3 _cl3 _fz _gz _wP _wD _hq3
  cases hl : lgO n m with
  | true =>
    rw [hl] at HL
    clear hr hs hl ht3 hT
    go_enter Tryd.func3, Tryd.ntmps3
    go_wp2_with (first
      | (go_at_call 8; (with_reducible refine (HL.out _).mono ?_); rintro e W1 ⟨rfl, g1⟩; have G1 := Lib.hid (G0.out.trans g1); have BA := Lib.hid (BA.out.gr g1); have BB := Lib.hid (BB.out.gr g1); clear p0 p1 s0 s1; obtain ⟨p0, p1⟩ := BA.out; obtain ⟨s0, s1, _⟩ := BB.out; clear g1)
      | (go_at_call 9; refine (Awake_any _).mono ?_; rintro e w9 ⟨rfl, g9⟩))
    go_ret
    exact ⟨rfl, G1.out.trans g9⟩
  | false =>
    rw [hl] at HL
    have l60 := lgO_false.1 hl
    by_cases hq : 60 < q
    · have i1 : (60 : Int) < (q : Int) := by omega
      have i2 : (q : Int) > 60 := by omega
      clear hr hs hl ht3 hT l60
      go_enter Tryd.func3, Tryd.ntmps3
      go_wp2_with (first
        | (go_at_call 8; (with_reducible refine (HL.out _).mono ?_); rintro e W1 ⟨rfl, g1⟩; have G1 := Lib.hid (G0.out.trans g1); have BA := Lib.hid (BA.out.gr g1); have BB := Lib.hid (BB.out.gr g1); clear p0 p1 s0 s1; obtain ⟨p0, p1⟩ := BA.out; obtain ⟨s0, s1, _⟩ := BB.out; clear g1)
        | (go_at_call 9; refine (Awake_any _).mono ?_; rintro e w9 ⟨rfl, g9⟩))
      go_ret
      exact ⟨rfl, G1.out.trans g9⟩
    · have i1 : ¬ (60 : Int) < (q : Int) := by omega
      have i2 : ¬ (q : Int) > 60 := by omega
      obtain ⟨X, Y, E1, H1, H2⟩ := gain_both (c := c) (d := d) (c3 := c3) (P := P) (D := D) l60.1 l60.2 (by omega) hr hs ht3
      obtain ⟨N, F, E2, hN, H3, H4⟩ := dear_both (c := c) (d := d) (P := P) (D := D) hT l60.1 l60.2 hr hs
      obtain ⟨x, E3, H5, H6⟩ := prov_both (c := c) (d := d) (c3 := c3) (P := P) (D := D) hT l60.1 l60.2 (by omega) hr hs ht3
      have H1 := Lib.hid H1
      have H2 := Lib.hid H2
      have H3 := Lib.hid H3
      have H4 := Lib.hid H4
      have H5 := Lib.hid H5
      have H6 := Lib.hid H6
      clear hr hs hl ht3 hT l60 hq
      go_enter Tryd.func3, Tryd.ntmps3
      go_wp2_with (first
        | (go_at_call 8; (with_reducible refine (HL.out _).mono ?_); rintro e W1 ⟨rfl, g1⟩; have G1 := Lib.hid (G0.out.trans g1); have BA := Lib.hid (BA.out.gr g1); have BB := Lib.hid (BB.out.gr g1); clear p0 p1 s0 s1; obtain ⟨p0, p1⟩ := BA.out; obtain ⟨s0, s1, _⟩ := BB.out; clear g1)
        | (go_at_call 10; (with_reducible refine (H1.out _ G1.out).mono ?_); rintro e v2 ⟨rfl, g2⟩; have gg := g2.alloc (.cells #[.int .i64 X, .int .i64 Y] 26); obtain ⟨V2, hV2⟩ : ∃ V2, v2.alloc (.cells #[.int .i64 X, .int .i64 Y] 26) = V2 := ⟨_, rfl⟩; rw [hV2] at gg; have G2 := Lib.hid (G1.out.trans gg); have BA := Lib.hid (BA.out.gr gg); have BB := Lib.hid (BB.out.gr gg); have R2 := Lib.hid (show Box2 V2 v2.heap.size X Y by rw [← hV2]; exact Box2.new rfl); obtain ⟨x2, y2, _⟩ := R2.out; clear p0 p1 s0 s1; obtain ⟨p0, p1⟩ := BA.out; obtain ⟨s0, s1, _⟩ := BB.out; clear gg g2)
        | (go_at_call 11; (with_reducible refine (H2.out _ G2.out).mono ?_); rintro e v3 ⟨rfl, g3⟩; have gg := g3.alloc (.cells #[.int .i64 X, .int .i64 Y] 26); obtain ⟨V3, hV3⟩ : ∃ V3, v3.alloc (.cells #[.int .i64 X, .int .i64 Y] 26) = V3 := ⟨_, rfl⟩; rw [hV3] at gg; have G3 := Lib.hid (G2.out.trans gg); have BA := Lib.hid (BA.out.gr gg); have BB := Lib.hid (BB.out.gr gg); have R3 := Lib.hid (show Box2 V3 v3.heap.size X Y by rw [← hV3]; exact Box2.new rfl); have R2 := Lib.hid (R2.out.gr gg); clear x2 y2; obtain ⟨x2, y2, _⟩ := R2.out; obtain ⟨x3, y3, _⟩ := R3.out; clear p0 p1 s0 s1; obtain ⟨p0, p1⟩ := BA.out; obtain ⟨s0, s1, _⟩ := BB.out; clear gg g3)
        | (go_at_call 12; (with_reducible refine (H3.out _ G3.out).mono ?_); rintro e v4 ⟨a4x, c4x, rfl, _, _, q4, g4⟩; have L4 := Lib.hid q4; have G4 := Lib.hid (G3.out.trans g4); have BA := Lib.hid (BA.out.gr g4); have BB := Lib.hid (BB.out.gr g4); clear p0 p1 s0 s1; obtain ⟨p0, p1⟩ := BA.out; obtain ⟨s0, s1, _⟩ := BB.out; clear g4 q4)
        | (go_at_call 13; (with_reducible refine (H4.out _ G4.out).mono ?_); rintro e v5 ⟨a5x, c5x, rfl, _, _, q5, g5⟩; have L5 := Lib.hid q5; have G5 := Lib.hid (G4.out.trans g5); have BA := Lib.hid (BA.out.gr g5); have BB := Lib.hid (BB.out.gr g5); have L4 := Lib.hid (L4.out.gr g5); clear p0 p1 s0 s1; obtain ⟨p0, p1⟩ := BA.out; obtain ⟨s0, s1, _⟩ := BB.out; clear g5 q5)
        | (go_at_call 14; (with_reducible refine (H5.out _ G5.out).mono ?_); rintro e v6 ⟨rfl, g6⟩; have G6 := Lib.hid (G5.out.trans g6); have BA := Lib.hid (BA.out.gr g6); have BB := Lib.hid (BB.out.gr g6); have L4 := Lib.hid (L4.out.gr g6); have L5 := Lib.hid (L5.out.gr g6); clear p0 p1 s0 s1; obtain ⟨p0, p1⟩ := BA.out; obtain ⟨s0, s1, _⟩ := BB.out; clear g6)
        | (go_at_call 15; (with_reducible refine (H6.out _ G6.out).mono ?_); rintro e v7 ⟨rfl, g7⟩; have G7 := Lib.hid (G6.out.trans g7); have BA := Lib.hid (BA.out.gr g7); have BB := Lib.hid (BB.out.gr g7); have L4 := Lib.hid (L4.out.gr g7); have L5 := Lib.hid (L5.out.gr g7); clear p0 p1 s0 s1; obtain ⟨p0, p1⟩ := BA.out; obtain ⟨s0, s1, _⟩ := BB.out; clear g7)
        | (go_at_call 16; (with_reducible refine (SameInts_any _ _ _ _ _ F _ hN L4.out L5.out).mono ?_); rintro e v8 ⟨rfl, g8⟩; have G8 := Lib.hid (G7.out.trans g8); clear g8)
        | (go_at_call 9; refine (Awake_any _).mono ?_; rintro e w9 ⟨rfl, g9⟩))
      go_ret
      exact ⟨rfl, G8.out.trans g9⟩

end Go.Proofs.YtohcnicadbpbbaaDoor
