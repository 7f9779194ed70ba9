/- The walk of WeighGains: it returns true at all odds, cuts and prices. Contracts of chapter 7: the noise and the signal of a cut, both small. How far noise and signal are apart: the gain of the dearest cut at the price 1. Contracts of chapter 7: less, of ratios that may be below 0. The gain of any cut at the price 1 as a ratio: how great, and that it is no greater than how far noise and signal are apart. -/
import Derived.Test.YtohcnicadbpbbaaDoorXG
import Derived.Test.YtohcnicadbpbbaaDoorXW
import Derived.Test.YtohcnicadbpbbaaDoorWD
import Derived.Test.YtohcnicadbpbbaaDoorW8
import Derived.Test.YtohcnicadbpbbaaDoorXT
import Derived.Test.YtohcnicadbpbbaaDoorP13
namespace Go.Proofs.YtohcnicadbpbbaaDoor
open Go.RowKit Go.Firn

section
variable {a b a3 : Option Addr} {n c m d q c3 : Nat} {f g h : Nat → Int} {P D : Int} {w : World}
theorem top_is (n : Nat) (f g : Nat → Int) (P D : Int) : IsBest (2 ^ n) (fun _ => true) (gS f g n P D) (cS n) (drB f g n P D) := bestR_best rfl
theorem gS_top {s : Nat} (hs : s < 2 ^ n) : gS f g n P D s ≤ topV f g n P D := by
  unfold topV
  rcases (top_is n f g P D).top s hs rfl with h | ⟨h, _⟩ <;> omega
theorem gnV_top (C : Cut n q h) : gnV f g n P D h q ≤ topV f g n P D := by rw [gnV_cut C]; exact gS_top (cutS_lt C)
/-- Both tell the same ratio. -/
def BothR (A B : Nat) (args : Array Value) (w : World) : Prop := ∃ X Y E : Int, (∀ w1, Gr w w1 → Calls Tryd.prog A args w1 (RetRE X Y E w1)) ∧ (∀ w1, Gr w w1 → Calls Tryd.prog B args w1 (RetRE X Y E w1))
def BothI (A B : Nat) (args : Array Value) (w : World) : Prop := ∃ (N : Nat) (F : Nat → Int) (E : Int), N ≤ 1000 ∧ (∀ w1, Gr w w1 → Calls Tryd.prog A args w1 (RetIs N F E w1)) ∧ (∀ w1, Gr w w1 → Calls Tryd.prog B args w1 (RetIs N F E w1))
def BothB (A B : Nat) (args : Array Value) (w : World) : Prop := ∃ (x : Bool) (E : Int), (∀ w1, Gr w w1 → Calls Tryd.prog A args w1 (RetBE x E w1)) ∧ (∀ w1, Gr w w1 → Calls Tryd.prog B args w1 (RetBE x E w1))
theorem gain_both (hn : n ≤ 60) (hm : m ≤ 60) (hq : q ≤ 60) (hr : RdI w a n f) (hs : RdI w b m g) (ht : RdI w a3 q h) : BothR 10 11 #[.agg #[.slice a n c, .slice b m d], .slice a3 q c3, .agg #[.int .i64 P, .int .i64 D]] w := by
  by_cases hE : prE n m f g q h P D = 0
  · obtain ⟨hv, hc, hp⟩ := prE_zero hE
    have V := vO_iff.1 hv
    obtain rfl := V.same
    have C := cutB_iff.1 hc
    have R := prB_iff.1 hp
    exact ⟨_, _, 0, fun w1 k => Gain_ok a b a3 n c d q c3 f g h P D w1 (hr.gr k) (hs.gr k) (ht.gr k) V C R, fun w1 k => refGain_ok a b a3 n c d q c3 f g h P D w1 (hr.gr k) (hs.gr k) (ht.gr k) V C R⟩
  · exact ⟨0, 0, _, fun w1 k => Gain_err a b a3 n c m d q c3 f g h P D w1 (by omega) (by omega) (by omega) (hr.gr k) (hs.gr k) (ht.gr k) hE, fun w1 k => refGain_err a b a3 n c m d q c3 f g h P D w1 (by omega) (by omega) (by omega) (hr.gr k) (hs.gr k) (ht.gr k) hE⟩
theorem dear_both (hT : Tab w) (hn : n ≤ 60) (hm : m ≤ 60) (hr : RdI w a n f) (hs : RdI w b m g) : BothI 12 13 #[.agg #[.slice a n c, .slice b m d], .agg #[.int .i64 P, .int .i64 D]] w := by
  by_cases hE : deE n m f g P D = 0
  · obtain ⟨hv, hc, hp⟩ := prE_zero hE
    have V := vO_iff.1 hv
    obtain rfl := V.same
    have R := prB_iff.1 hp
    have l := cS_len (n := n) (drB f g n P D)
    have := V.noise.few
    exact ⟨_, _, 0, by omega, fun w1 k => Dearest_ok a b n c d f g P D w1 (hr.gr k) (hs.gr k) V R (hT.gr k), fun w1 k => refDearest_ok a b n c d f g P D w1 (hr.gr k) (hs.gr k) V R⟩
  · exact ⟨0, _, _, by omega, fun w1 k => Dearest_err a b n c m d f g P D w1 (by omega) (by omega) (hr.gr k) (hs.gr k) hE, fun w1 k => refDearest_err a b n c m d f g P D w1 (by omega) (by omega) (hr.gr k) (hs.gr k) hE⟩
theorem prov_both (hT : Tab w) (hn : n ≤ 60) (hm : m ≤ 60) (hq : q ≤ 60) (hr : RdI w a n f) (hs : RdI w b m g) (ht : RdI w a3 q h) : BothB 14 15 #[.agg #[.slice a n c, .slice b m d], .slice a3 q c3, .agg #[.int .i64 P, .int .i64 D]] w := by
  by_cases hE : prE n m f g q h P D = 0
  · obtain ⟨hv, hc, hp⟩ := prE_zero hE
    have V := vO_iff.1 hv
    obtain rfl := V.same
    have C := cutB_iff.1 hc
    have R := prB_iff.1 hp
    have e : decide (gnV f g n P D h q ≥ topV f g n P D) = (gnV f g n P D h q == topV f g n P D) := by
      have := gnV_top (f := f) (g := g) (P := P) (D := D) C
      rw [Bool.beq_eq_decide_eq]
      exact decide_eq_decide.2 (by omega)
    exact ⟨_, 0, fun w1 k => Proves_ok a b a3 n c d q c3 f g h P D w1 (hr.gr k) (hs.gr k) (ht.gr k) V C R (hT.gr k), fun w1 k => by rw [← e]; exact refProves_ok a b a3 n c d q c3 f g h P D w1 (hr.gr k) (hs.gr k) (ht.gr k) V C R⟩
  · exact ⟨false, _, fun w1 k => Proves_err a b a3 n c m d q c3 f g h P D w1 (by omega) (by omega) (by omega) (hr.gr k) (hs.gr k) (ht.gr k) hE, fun w1 k => refProves_err a b a3 n c m d q c3 f g h P D w1 (by omega) (by omega) (by omega) (hr.gr k) (hs.gr k) (ht.gr k) hE⟩
end

set_option maxHeartbeats 8000000 in
set_option maxRecDepth 100000 in
theorem gains_walk (a b : Option Addr) (n c m d : Nat) (f g : Nat → Int) (a3 : Option Addr) (q c3 : Nat) (h : Nat → Int) (P D : Int) (w : World) (_hn : n ≤ 9223372036854775807) (_hm : m ≤ 9223372036854775807) (_nc : n ≤ c) (_cl : c ≤ maxLen) (_md : m ≤ d) (_dl : d ≤ maxLen) (_fz : ∀ i, n ≤ i → f i = 0) (_gz : ∀ i, m ≤ i → g i = 0) (hr : RdI w a n f) (hs : RdI w b m g) (_hq3 : q ≤ 9223372036854775807) (_qc3 : q ≤ c3) (_cl3 : c3 ≤ maxLen) (ht3 : RdI w a3 q h) (_wP : (Lit.int .i64 P).wf = true) (_wD : (Lit.int .i64 D).wf = true) (hT : Tab w) :
    Calls Tryd.prog 3 #[.agg #[.slice a n c, .slice b m d], .slice a3 q c3, .agg #[.int .i64 P, .int .i64 D]] w (RetB true w) := by
  obtain ⟨X0, hX0⟩ : ∃ X0, (w.alloc (.cells #[.slice a n c, .slice b m d] 24)).alloc (.cells #[.int .i64 P, .int .i64 D] 26) = X0 := ⟨_, rfl⟩
  have G0 := Lib.hid (show Gr w X0 by rw [← hX0]; exact ((Gr.refl w).alloc _).alloc _)
  have BA := Lib.hid (show BoxO X0 w.heap.size (.slice a n c) (.slice b m d) by rw [← hX0]; exact (BoxO.new rfl).gr ((Gr.refl _).alloc _))
  have BB := Lib.hid (show Box2 X0 (w.heap.size + 1) P D by rw [← hX0]; exact Box2.new (by simp))
  obtain ⟨p0, p1⟩ := BA.out
  obtain ⟨s0, s1, _⟩ := BB.out
  have HL := Lib.hid (fun w1 => Long_any a b n c m d w1)
  clear _hn _hm _nc _cl _md _dl _qc3 _cl3 _fz _gz _wP _wD _hq3
  cases hl : lgO n m with
  | true =>
    rw [hl] at HL
    clear hr hs hl ht3 hT
    go_enter Tryd.func3, Tryd.ntmps3
    go_wp2_with (first
      | (go_at_call 8; (with_reducible refine (HL.out _).mono ?_); rintro e W1 ⟨rfl, g1⟩; have G1 := Lib.hid (G0.out.trans g1); have BA := Lib.hid (BA.out.gr g1); have BB := Lib.hid (BB.out.gr g1); clear p0 p1 s0 s1; obtain ⟨p0, p1⟩ := BA.out; obtain ⟨s0, s1, _⟩ := BB.out; clear g1)
      | (go_at_call 9; refine (Awake_any _).mono ?_; rintro e w9 ⟨rfl, g9⟩))
    go_ret
    exact ⟨rfl, G1.out.trans g9⟩
  | false =>
    rw [hl] at HL
    have l60 := lgO_false.1 hl
    by_cases hq : 60 < q
    · have i1 : (60 : Int) < (q : Int) := by omega
      have i2 : (q : Int) > 60 := by omega
      clear hr hs hl ht3 hT l60
      go_enter Tryd.func3, Tryd.ntmps3
      go_wp2_with (first
        | (go_at_call 8; (with_reducible refine (HL.out _).mono ?_); rintro e W1 ⟨rfl, g1⟩; have G1 := Lib.hid (G0.out.trans g1); have BA := Lib.hid (BA.out.gr g1); have BB := Lib.hid (BB.out.gr g1); clear p0 p1 s0 s1; obtain ⟨p0, p1⟩ := BA.out; obtain ⟨s0, s1, _⟩ := BB.out; clear g1)
        | (go_at_call 9; refine (Awake_any _).mono ?_; rintro e w9 ⟨rfl, g9⟩))
      go_ret
      exact ⟨rfl, G1.out.trans g9⟩
    · have i1 : ¬ (60 : Int) < (q : Int) := by omega
      have i2 : ¬ (q : Int) > 60 := by omega
      obtain ⟨X, Y, E1, H1, H2⟩ := gain_both (c := c) (d := d) (c3 := c3) (P := P) (D := D) l60.1 l60.2 (by omega) hr hs ht3
      obtain ⟨N, F, E2, hN, H3, H4⟩ := dear_both (c := c) (d := d) (P := P) (D := D) hT l60.1 l60.2 hr hs
      obtain ⟨x, E3, H5, H6⟩ := prov_both (c := c) (d := d) (c3 := c3) (P := P) (D := D) hT l60.1 l60.2 (by omega) hr hs ht3
      have H1 := Lib.hid H1
      have H2 := Lib.hid H2
      have H3 := Lib.hid H3
      have H4 := Lib.hid H4
      have H5 := Lib.hid H5
      have H6 := Lib.hid H6
      clear hr hs hl ht3 hT l60 hq
      go_enter Tryd.func3, Tryd.ntmps3
      go_wp2_with (first
        | (go_at_call 8; (with_reducible refine (HL.out _).mono ?_); rintro e W1 ⟨rfl, g1⟩; have G1 := Lib.hid (G0.out.trans g1); have BA := Lib.hid (BA.out.gr g1); have BB := Lib.hid (BB.out.gr g1); clear p0 p1 s0 s1; obtain ⟨p0, p1⟩ := BA.out; obtain ⟨s0, s1, _⟩ := BB.out; clear g1)
        | (go_at_call 10; (with_reducible refine (H1.out _ G1.out).mono ?_); rintro e v2 ⟨rfl, g2⟩; have gg := g2.alloc (.cells #[.int .i64 X, .int .i64 Y] 26); obtain ⟨V2, hV2⟩ : ∃ V2, v2.alloc (.cells #[.int .i64 X, .int .i64 Y] 26) = V2 := ⟨_, rfl⟩; rw [hV2] at gg; have G2 := Lib.hid (G1.out.trans gg); have BA := Lib.hid (BA.out.gr gg); have BB := Lib.hid (BB.out.gr gg); have R2 := Lib.hid (show Box2 V2 v2.heap.size X Y by rw [← hV2]; exact Box2.new rfl); obtain ⟨x2, y2, _⟩ := R2.out; clear p0 p1 s0 s1; obtain ⟨p0, p1⟩ := BA.out; obtain ⟨s0, s1, _⟩ := BB.out; clear gg g2)
        | (go_at_call 11; (with_reducible refine (H2.out _ G2.out).mono ?_); rintro e v3 ⟨rfl, g3⟩; have gg := g3.alloc (.cells #[.int .i64 X, .int .i64 Y] 26); obtain ⟨V3, hV3⟩ : ∃ V3, v3.alloc (.cells #[.int .i64 X, .int .i64 Y] 26) = V3 := ⟨_, rfl⟩; rw [hV3] at gg; have G3 := Lib.hid (G2.out.trans gg); have BA := Lib.hid (BA.out.gr gg); have BB := Lib.hid (BB.out.gr gg); have R3 := Lib.hid (show Box2 V3 v3.heap.size X Y by rw [← hV3]; exact Box2.new rfl); have R2 := Lib.hid (R2.out.gr gg); clear x2 y2; obtain ⟨x2, y2, _⟩ := R2.out; obtain ⟨x3, y3, _⟩ := R3.out; clear p0 p1 s0 s1; obtain ⟨p0, p1⟩ := BA.out; obtain ⟨s0, s1, _⟩ := BB.out; clear gg g3)
        | (go_at_call 12; (with_reducible refine (H3.out _ G3.out).mono ?_); rintro e v4 ⟨a4x, c4x, rfl, _, _, q4, g4⟩; have L4 := Lib.hid q4; have G4 := Lib.hid (G3.out.trans g4); have BA := Lib.hid (BA.out.gr g4); have BB := Lib.hid (BB.out.gr g4); clear p0 p1 s0 s1; obtain ⟨p0, p1⟩ := BA.out; obtain ⟨s0, s1, _⟩ := BB.out; clear g4 q4)
        | (go_at_call 13; (with_reducible refine (H4.out _ G4.out).mono ?_); rintro e v5 ⟨a5x, c5x, rfl, _, _, q5, g5⟩; have L5 := Lib.hid q5; have G5 := Lib.hid (G4.out.trans g5); have BA := Lib.hid (BA.out.gr g5); have BB := Lib.hid (BB.out.gr g5); have L4 := Lib.hid (L4.out.gr g5); clear p0 p1 s0 s1; obtain ⟨p0, p1⟩ := BA.out; obtain ⟨s0, s1, _⟩ := BB.out; clear g5 q5)
        | (go_at_call 14; (with_reducible refine (H5.out _ G5.out).mono ?_); rintro e v6 ⟨rfl, g6⟩; have G6 := Lib.hid (G5.out.trans g6); have BA := Lib.hid (BA.out.gr g6); have BB := Lib.hid (BB.out.gr g6); have L4 := Lib.hid (L4.out.gr g6); have L5 := Lib.hid (L5.out.gr g6); clear p0 p1 s0 s1; obtain ⟨p0, p1⟩ := BA.out; obtain ⟨s0, s1, _⟩ := BB.out; clear g6)
        | (go_at_call 15; (with_reducible refine (H6.out _ G6.out).mono ?_); rintro e v7 ⟨rfl, g7⟩; have G7 := Lib.hid (G6.out.trans g7); have BA := Lib.hid (BA.out.gr g7); have BB := Lib.hid (BB.out.gr g7); have L4 := Lib.hid (L4.out.gr g7); have L5 := Lib.hid (L5.out.gr g7); clear p0 p1 s0 s1; obtain ⟨p0, p1⟩ := BA.out; obtain ⟨s0, s1, _⟩ := BB.out; clear g7)
        | (go_at_call 16; (with_reducible refine (SameInts_any _ _ _ _ _ F _ hN L4.out L5.out).mono ?_); rintro e v8 ⟨rfl, g8⟩; have G8 := Lib.hid (G7.out.trans g8); clear g8)
        | (go_at_call 9; refine (Awake_any _).mono ?_; rintro e w9 ⟨rfl, g9⟩))
      go_ret
      exact ⟨rfl, G8.out.trans g9⟩

end Go.Proofs.YtohcnicadbpbbaaDoor

namespace Go.Proofs.YtohcnicadbpbbaaDoor
open Go.RowKit Go.Firn

/-- Two ratios and a word. -/
def RetKp (A B C D : Int) (w : World) (e : Ending) (w' : World) : Prop := e = .returned (.tuple #[.agg #[.int .i64 A, .int .i64 B], .agg #[.int .i64 C, .int .i64 D], .bool true]) ∧ Gr w w'
/-- The results' cells while they are stored anew. -/
def Kpt (w : World) (b2 b3 : Nat) (A B C D : Int) (W : World) : Prop := Box2 W b2 A B ∧ Box2 W b3 C D ∧ Gr w W
theorem Kpt.put2 {w W : World} {b2 b3 : Nat} {A B C D : Int} (h : Kpt w b2 b3 A B C D W) (h1 : b2 ≠ b3) (hb : w.heap.size ≤ b2) : Kpt w b2 b3 A B C D ((W.setCell ⟨b2, 0, none⟩ (.int .i64 A)).setCell ⟨b2, 1, none⟩ (.int .i64 B)) :=
  ⟨h.1.put, h.2.1.far h1 _ _, (h.2.2.setCell (p := ⟨b2, 0, none⟩) hb _).setCell (p := ⟨b2, 1, none⟩) hb _⟩
theorem Kpt.put3 {w W : World} {b2 b3 : Nat} {A B C D : Int} (h : Kpt w b2 b3 A B C D W) (h1 : b3 ≠ b2) (hb : w.heap.size ≤ b3) : Kpt w b2 b3 A B C D ((W.setCell ⟨b3, 0, none⟩ (.int .i64 C)).setCell ⟨b3, 1, none⟩ (.int .i64 D)) :=
  ⟨h.1.far h1 _ _, h.2.1.put, (h.2.2.setCell (p := ⟨b3, 0, none⟩) hb _).setCell (p := ⟨b3, 1, none⟩) hb _⟩
theorem Kpt.gr {w W W' : World} {b2 b3 : Nat} {A B C D : Int} (h : Kpt w b2 b3 A B C D W) (g : Gr W W') : Kpt w b2 b3 A B C D W' := ⟨h.1.gr g, h.2.1.gr g, h.2.2.trans g⟩
theorem Kpt.drew {w W : World} {b2 b3 : Nat} {A B C D : Int} (h : Kpt w b2 b3 A B C D W) : Kpt w b2 b3 A B C D W.drew := h.gr ((Gr.refl W).drew)

set_option maxHeartbeats 4000000 in
set_option maxRecDepth 100000 in
theorem kept_yes (a a2 a3 : Option Addr) (n c d q c3 : Nat) (f g h : Nat → Int) (w : World) (hr : RdI w a n f) (hs : RdI w a2 n g) (ht : RdI w a3 q h) (hf : ∀ i, 0 ≤ f i) (hg : ∀ i, 0 ≤ g i) (hv : VO n n f g) (hc : Cut n q h) :
    Calls Tryd.prog 20 #[.agg #[.slice a n c, .slice a2 n d], .slice a3 q c3] w (RetKp (rN (kp f h q) (sm f n)) (rD (kp f h q) (sm f n)) (rN (kp g h q) (sm g n)) (rD (kp g h q) (sm g n)) w) := by
  have n10 := hv.noise.few
  have q10 := hc.few
  have E := askE_ok (h := h) (vO_iff.2 hv) (cutB_iff.2 hc)
  have C1 := Lib.hid (show ∀ w', Gr w w' → Calls Tryd.prog 49 #[.agg #[.slice a n c, .slice a2 n d], .slice a3 q c3] w' (RetRE (rN (kp f h q) (sm f n)) (rD (kp f h q) (sm f n)) 0 w') from fun w' k => by
    have := Noise_any a a2 a3 n c n d q c3 f g h w' (by omega) (by omega) (by omega) (hr.gr k) (hs.gr k) (ht.gr k)
    rw [E] at this
    exact this)
  have C2 := Lib.hid (show ∀ w', Gr w w' → Calls Tryd.prog 50 #[.agg #[.slice a n c, .slice a2 n d], .slice a3 q c3] w' (RetRE (rN (kp g h q) (sm g n)) (rD (kp g h q) (sm g n)) 0 w') from fun w' k => by
    have := Signal_any a a2 a3 n c n d q c3 f g h w' (by omega) (by omega) (by omega) (hr.gr k) (hs.gr k) (ht.gr k)
    rw [E] at this
    exact this)
  have b1 := sm_le10 hv.noise
  have b2 := sm_le10 hv.signal
  have k1 := kp_all hc hf
  have k2 := kp_all hc hg
  have S1 := Lib.hid (fun w' => small_yes _ _ w' (sml_red b1.1 (by omega) k1.1 k1.2))
  have S2 := Lib.hid (fun w' => small_yes _ _ w' (sml_red b2.1 (by omega) k2.1 k2.2))
  clear hr hs ht hf hg hv hc E b1 b2 k1 k2
  generalize rN (kp f h q) (sm f n) = A at *
  generalize rD (kp f h q) (sm f n) = B at *
  generalize rN (kp g h q) (sm g n) = C at *
  generalize rD (kp g h q) (sm g n) = D at *
  obtain ⟨W0, hW0⟩ : ∃ W0, ((w.alloc (.cells #[.slice a n c, .slice a2 n d] 24)).alloc (.cells #[.int .i64 0, .int .i64 0] 26)).alloc (.cells #[.int .i64 0, .int .i64 0] 26) = W0 := ⟨_, rfl⟩
  have G0 := Lib.hid (show Gr w W0 by rw [← hW0]; exact (((Gr.refl w).alloc _).alloc _).alloc _)
  have BA := Lib.hid (show BoxO W0 w.heap.size (.slice a n c) (.slice a2 n d) by rw [← hW0]; exact (BoxO.new rfl).gr (((Gr.refl _).alloc _).alloc _))
  have B2 := Lib.hid (show Box2 W0 (w.heap.size + 1) 0 0 by rw [← hW0]; exact (Box2.new (by simp)).gr ((Gr.refl _).alloc _))
  have B3 := Lib.hid (show Box2 W0 (w.heap.size + 2) 0 0 by rw [← hW0]; exact Box2.new (by simp))
  have M1 : w.heap.size + 1 ≠ w.heap.size + 2 := by omega
  have M2 : w.heap.size + 2 ≠ w.heap.size + 1 := by omega
  have M3 : w.heap.size ≤ w.heap.size + 1 := by omega
  have M4 : w.heap.size ≤ w.heap.size + 2 := by omega
  have M5 : w.heap.size + 1 ≠ w.heap.size := by omega
  have M6 : w.heap.size + 2 ≠ w.heap.size := by omega
  obtain ⟨x0, x1⟩ := BA.out
  go_enter Tryd.func20, Tryd.ntmps20
  go_wp2_with (first
    | (go_at_call 49; (with_reducible refine (C1.out _ G0.out).mono ?_); rintro e v1 ⟨rfl, g1⟩; obtain ⟨p0, p1, p2, p3⟩ := B2.out.gr g1; obtain ⟨W1, hW1⟩ : ∃ W1, (v1.setCell ⟨w.heap.size + 1, 0, none⟩ (.int .i64 A)).setCell ⟨w.heap.size + 1, 1, none⟩ (.int .i64 B) = W1 := ⟨_, rfl⟩; have G1 := Lib.hid (show Gr w W1 by rw [← hW1]; exact ((G0.out.trans g1).setCell (p := ⟨w.heap.size + 1, 0, none⟩) M3 (.int .i64 A)).setCell (p := ⟨w.heap.size + 1, 1, none⟩) M3 (.int .i64 B)); have B2a := Lib.hid (show Box2 W1 (w.heap.size + 1) A B by rw [← hW1]; exact (B2.out.gr g1).put (x' := A) (y' := B)); have B3a := Lib.hid (show Box2 W1 (w.heap.size + 2) 0 0 by rw [← hW1]; exact (B3.out.gr g1).far M1 (.int .i64 A) (.int .i64 B)); have BA1 := Lib.hid (show BoxO W1 w.heap.size (.slice a n c) (.slice a2 n d) by rw [← hW1]; exact ⟨cell_far (cell_far (BA.out.gr g1).1 M5 _) M5 _, cell_far (cell_far (BA.out.gr g1).2 M5 _) M5 _⟩); clear x0 x1; obtain ⟨x0, x1⟩ := BA1.out; clear g1)
    | (go_at_call 50; (with_reducible refine (C2.out _ G1.out).mono ?_); rintro e v2 ⟨rfl, g2⟩; clear p0 p1 p2 p3; obtain ⟨p0, p1, p2, p3⟩ := B3a.out.gr g2; obtain ⟨W2, hW2⟩ : ∃ W2, (v2.setCell ⟨w.heap.size + 2, 0, none⟩ (.int .i64 C)).setCell ⟨w.heap.size + 2, 1, none⟩ (.int .i64 D) = W2 := ⟨_, rfl⟩; have KS := Lib.hid (show Kpt w (w.heap.size + 1) (w.heap.size + 2) A B C D W2 by rw [← hW2]; exact ⟨(B2a.out.gr g2).far M2 _ _, (B3a.out.gr g2).put, ((G1.out.trans g2).setCell (p := ⟨w.heap.size + 2, 0, none⟩) M4 (.int .i64 C)).setCell (p := ⟨w.heap.size + 2, 1, none⟩) M4 (.int .i64 D)⟩); clear x0 x1 g2))
  clear p0 p1 p2 p3
  refine (wpIn_wide (n := 3)).1 ?_
  refine wpIn_region_held (Kpt w (w.heap.size + 1) (w.heap.size + 2) A B C D) 19 (by kernel_rfl) rfl rfl ?_
  have hS := KS.out.drew
  iterate 10 (first
    | (refine wpAnyHIn_take 0 (v := ?_) rfl (by kernel_rfl) (by kernel_rfl) (by kernel_rfl) (by decide +kernel) (fun _ _ _ h => h) (fun _ _ _ => trivial) (by rfl) (fun w' hSw => ?_) hS ?_; rotate_left 1; (focus (obtain ⟨⟨a0, a1, a2', a3'⟩, ⟨b0, b1, b2', b3'⟩, _⟩ := hSw; go_simp; try with_reducible rfl)); simp only [Act.put, List.setIfInBounds_toArray, List.set_cons_zero, List.set_cons_succ])
    | (refine wpAnyHIn_take 1 (v := ?_) rfl (by kernel_rfl) (by kernel_rfl) (by kernel_rfl) (by decide +kernel) (fun _ _ _ h => h) (fun _ _ _ => trivial) (by rfl) (fun w' hSw => ?_) hS ?_; rotate_left 1; (focus (obtain ⟨⟨a0, a1, a2', a3'⟩, ⟨b0, b1, b2', b3'⟩, _⟩ := hSw; go_simp; try with_reducible rfl)); simp only [Act.put, List.setIfInBounds_toArray, List.set_cons_zero, List.set_cons_succ])
    | (refine wpAnyHIn_take 2 (v := ?_) rfl (by kernel_rfl) (by kernel_rfl) (by kernel_rfl) (by decide +kernel) (fun _ _ _ h => h) (fun _ _ _ => trivial) (by rfl) (fun w' hSw => ?_) hS ?_; rotate_left 1; (focus (obtain ⟨⟨a0, a1, a2', a3'⟩, ⟨b0, b1, b2', b3'⟩, _⟩ := hSw; go_simp; try with_reducible rfl)); simp only [Act.put, List.setIfInBounds_toArray, List.set_cons_zero, List.set_cons_succ])
    | (refine wpAnyHIn_take 3 (v := ?_) rfl (by kernel_rfl) (by kernel_rfl) (by kernel_rfl) (by decide +kernel) (fun _ _ _ h => h) (fun _ _ _ => trivial) (by rfl) (fun w' hSw => ?_) hS ?_; rotate_left 1; (focus (obtain ⟨⟨a0, a1, a2', a3'⟩, ⟨b0, b1, b2', b3'⟩, _⟩ := hSw; go_simp; try with_reducible rfl)); simp only [Act.put, List.setIfInBounds_toArray, List.set_cons_zero, List.set_cons_succ])
    | (refine wpAnyHIn_take 4 (v := ?_) rfl (by kernel_rfl) (by kernel_rfl) (by kernel_rfl) (by decide +kernel) (fun _ _ _ h => h) (fun _ _ _ => trivial) (by rfl) (fun w' hSw => ?_) hS ?_; rotate_left 1; (focus (obtain ⟨⟨a0, a1, a2', a3'⟩, ⟨b0, b1, b2', b3'⟩, _⟩ := hSw; go_simp; try with_reducible rfl)); simp only [Act.put, List.setIfInBounds_toArray, List.set_cons_zero, List.set_cons_succ])
    | (refine wpAnyHIn_take 5 (v := ?_) rfl (by kernel_rfl) (by kernel_rfl) (by kernel_rfl) (by decide +kernel) (fun _ _ _ h => h) (fun _ _ _ => trivial) (by rfl) (fun w' hSw => ?_) hS ?_; rotate_left 1; (focus (obtain ⟨⟨a0, a1, a2', a3'⟩, ⟨b0, b1, b2', b3'⟩, _⟩ := hSw; go_simp; try with_reducible rfl)); simp only [Act.put, List.setIfInBounds_toArray, List.set_cons_zero, List.set_cons_succ])
    | (refine wpAnyHIn_take 6 (v := ?_) rfl (by kernel_rfl) (by kernel_rfl) (by kernel_rfl) (by decide +kernel) (fun _ _ _ h => h) (fun _ _ _ => trivial) (by rfl) (fun w' hSw => ?_) hS ?_; rotate_left 1; (focus (obtain ⟨⟨a0, a1, a2', a3'⟩, ⟨b0, b1, b2', b3'⟩, _⟩ := hSw; go_simp; try with_reducible rfl)); simp only [Act.put, List.setIfInBounds_toArray, List.set_cons_zero, List.set_cons_succ])
    | (refine wpAnyHIn_take 7 (v := ?_) rfl (by kernel_rfl) (by kernel_rfl) (by kernel_rfl) (by decide +kernel) (fun _ _ _ h => h) (fun _ _ _ => trivial) (by rfl) (fun w' hSw => ?_) hS ?_; rotate_left 1; (focus (obtain ⟨⟨a0, a1, a2', a3'⟩, ⟨b0, b1, b2', b3'⟩, _⟩ := hSw; go_simp; try with_reducible rfl)); simp only [Act.put, List.setIfInBounds_toArray, List.set_cons_zero, List.set_cons_succ])
    | (refine wpAnyHIn_take 8 (v := ?_) rfl (by kernel_rfl) (by kernel_rfl) (by kernel_rfl) (by decide +kernel) (fun _ _ _ h => h) (fun _ _ _ => trivial) (by rfl) (fun w' hSw => ?_) hS ?_; rotate_left 1; (focus (obtain ⟨⟨a0, a1, a2', a3'⟩, ⟨b0, b1, b2', b3'⟩, _⟩ := hSw; go_simp; try with_reducible rfl)); simp only [Act.put, List.setIfInBounds_toArray, List.set_cons_zero, List.set_cons_succ])
    | (refine wpAnyHIn_take 9 (v := ?_) rfl (by kernel_rfl) (by kernel_rfl) (by kernel_rfl) (by decide +kernel) (fun _ _ _ h => h) (fun _ _ _ => trivial) (by rfl) (fun w' hSw => ?_) hS ?_; rotate_left 1; (focus (obtain ⟨⟨a0, a1, a2', a3'⟩, ⟨b0, b1, b2', b3'⟩, _⟩ := hSw; go_simp; try with_reducible rfl)); simp only [Act.put, List.setIfInBounds_toArray, List.set_cons_zero, List.set_cons_succ]))
  refine wpAnyHIn_ready [10] (by kernel_rfl) (by simp) ?_
  refine AllHIn.cons rfl (by rfl) (fun K hK => ?_) AllHIn.nil
  go_simp
  refine ⟨trivial, ?_⟩
  refine (callsIn_wide.2 (S1.out _)).mono ?_
  rintro e wX ⟨rfl, gX⟩
  have hS := hS.gr gX
  refine hK.out _ _ hS ?_
  clear hK K gX
  iterate 3 (first
    | (refine wpAnyHIn_take 11 (v := ?_) rfl (by kernel_rfl) (by kernel_rfl) (by kernel_rfl) (by decide +kernel) (fun _ _ _ h => h) (fun _ _ _ => trivial) (by rfl) (fun w' hSw => ?_) hS ?_; rotate_left 1; (focus (obtain ⟨⟨a0, a1, a2', a3'⟩, ⟨b0, b1, b2', b3'⟩, _⟩ := hSw; go_simp; try with_reducible rfl)); simp only [Act.put, List.setIfInBounds_toArray, List.set_cons_zero, List.set_cons_succ])
    | (refine wpAnyHIn_take 12 (v := ?_) rfl (by kernel_rfl) (by kernel_rfl) (by kernel_rfl) (by decide +kernel) (fun _ _ _ h => h) (fun _ _ _ => trivial) (by rfl) (fun w' hSw => ?_) hS ?_; rotate_left 1; (focus (obtain ⟨⟨a0, a1, a2', a3'⟩, ⟨b0, b1, b2', b3'⟩, _⟩ := hSw; go_simp; try with_reducible rfl)); simp only [Act.put, List.setIfInBounds_toArray, List.set_cons_zero, List.set_cons_succ])
    | (refine wpAnyHIn_take 13 (v := ?_) rfl (by kernel_rfl) (by kernel_rfl) (by kernel_rfl) (by decide +kernel) (fun _ _ _ h => h) (fun _ _ _ => trivial) (by rfl) (fun w' hSw => ?_) hS ?_; rotate_left 1; (focus (obtain ⟨⟨a0, a1, a2', a3'⟩, ⟨b0, b1, b2', b3'⟩, _⟩ := hSw; go_simp; try with_reducible rfl)); simp only [Act.put, List.setIfInBounds_toArray, List.set_cons_zero, List.set_cons_succ]))
  refine wpAnyHIn_ready [14] (by kernel_rfl) (by simp) ?_
  refine AllHIn.cons rfl (by rfl) (fun K hK => ?_) AllHIn.nil
  go_simp
  refine ⟨trivial, ?_⟩
  refine (callsIn_wide.2 (S2.out _)).mono ?_
  rintro e wX ⟨rfl, gX⟩
  have hS := hS.gr gX
  refine hK.out _ _ hS ?_
  clear hK K gX
  iterate 1 (first
    | (refine wpAnyHIn_take 15 (v := ?_) rfl (by kernel_rfl) (by kernel_rfl) (by kernel_rfl) (by decide +kernel) (fun _ _ _ h => h) (fun _ _ _ => trivial) (by rfl) (fun w' hSw => ?_) hS ?_; rotate_left 1; (focus (skip; go_simp; try with_reducible rfl)); simp only [Act.put, List.setIfInBounds_toArray, List.set_cons_zero, List.set_cons_succ]))
  refine wpAnyHIn_ready [16] (by kernel_rfl) (by simp) ?_
  refine AllHIn.cons rfl (by rfl) (fun K hK => ?_) AllHIn.nil
  have hS0 := hS
  obtain ⟨⟨a0, a1, a2', a3'⟩, ⟨b0, b1, b2', b3'⟩, _⟩ := hS0
  go_simp
  have hS := Kpt.put2 hS M1 M3
  refine hK.out _ _ hS ?_
  clear hK K a0 a1 a2' a3' b0 b1 b2' b3'
  refine wpAnyHIn_ready [17] (by kernel_rfl) (by simp) ?_
  refine AllHIn.cons rfl (by rfl) (fun K hK => ?_) AllHIn.nil
  have hS0 := hS
  obtain ⟨⟨a0, a1, a2', a3'⟩, ⟨b0, b1, b2', b3'⟩, _⟩ := hS0
  go_simp
  have hS := Kpt.put3 hS M2 M4
  refine hK.out _ _ hS ?_
  clear hK K a0 a1 a2' a3' b0 b1 b2' b3'
  iterate 1 (first
    | (refine wpAnyHIn_take 18 (v := ?_) rfl (by kernel_rfl) (by kernel_rfl) (by kernel_rfl) (by decide +kernel) (fun _ _ _ h => h) (fun _ _ _ => trivial) (by rfl) (fun w' hSw => ?_) hS ?_; rotate_left 1; (focus (skip; go_simp; try with_reducible rfl)); simp only [Act.put, List.setIfInBounds_toArray, List.set_cons_zero, List.set_cons_succ]))
  refine wpAnyHIn_done (by kernel_rfl) ?_ _
  obtain ⟨⟨r0, r1, _, _⟩, ⟨r2, r3, _, _⟩, rg⟩ := hS
  go_wp2_with fail
  exact bodyPost_ret (v := .tuple #[.agg #[.int .i64 A, .int .i64 B], .agg #[.int .i64 C, .int .i64 D], .bool true]) (by simp [results, Tryd.results20, go_sem, r0, r1, r2, r3]) rfl ⟨rfl, rg⟩

end Go.Proofs.YtohcnicadbpbbaaDoor

namespace Go.Proofs.YtohcnicadbpbbaaDoor
open Go.RowKit Go.Firn

/-- What an outcome gains at the price 1. -/
def oneG (f g : Nat → Int) (n a : Nat) : Int := g a * sm f n - f a * sm g n
theorem one_sum (f g : Nat → Int) (n : Nat) (p : Nat → Bool) :
    sm (fun a => if p a then g a else 0) n * 1 * sm f n - 1 * sm (fun a => if p a then f a else 0) n * sm g n = sm (fun a => if p a then oneG f g n a else 0) n := by
  have e : sm (fun a => if p a then oneG f g n a else 0) n = sm (fun a => (if p a then g a else 0) * sm f n + (if p a then f a else 0) * (-sm g n)) n :=
    sm_congr fun a _ => by
      unfold oneG
      cases p a with
      | false => simp
      | true =>
        show g a * sm f n - f a * sm g n = g a * sm f n + f a * (-sm g n)
        rw [Int.mul_neg]; omega
  rw [e, sm_add, sm_mulr, sm_mulr, Int.mul_neg, Int.mul_one, Int.one_mul]
  omega
theorem gS_one (f g : Nat → Int) (n s : Nat) : gS f g n 1 1 s = sm (fun a => if s.testBit a then oneG f g n a else 0) n := by
  unfold gS kS
  exact one_sum f g n s.testBit
theorem gS_far (f g : Nat → Int) (n s : Nat) : gS f g n 1 1 s ≤ apP f g n := by
  rw [gS_one]
  unfold apP
  refine sm_mono fun a _ => ?_
  cases s.testBit a with
  | false => exact Int.le_max_left ..
  | true => exact Int.le_max_right ..
theorem far_is (f g : Nat → Int) (n : Nat) : topV f g n 1 1 = apP f g n := by
  refine Int.le_antisymm (by unfold topV; exact gS_far ..) ?_
  let p : Nat → Bool := fun a => decide (0 < oneG f g n a)
  have C := cut_onL p n
  have h := gnV_top (f := f) (g := g) (P := 1) (D := 1) C
  unfold gnV at h
  rw [kp_onL, kp_onL, one_sum] at h
  refine Int.le_trans (Int.le_of_eq ?_) h
  unfold apP
  refine sm_congr fun a _ => ?_
  show max 0 (oneG f g n a) = if decide (0 < oneG f g n a) = true then oneG f g n a else 0
  by_cases t : 0 < oneG f g n a
  · rw [if_pos (decide_eq_true t)]; omega
  · rw [if_neg (by simpa using t)]; omega
theorem ap_swap (f g : Nat → Int) (n : Nat) : apP g f n = apP f g n := by
  have e : apA g f n = apA f g n := sm_congr fun a _ => by omega
  rw [ap_two, ap_two] at e
  omega

end Go.Proofs.YtohcnicadbpbbaaDoor

namespace Go.Proofs.YtohcnicadbpbbaaDoor
open Go.RowKit Go.Firn

/-- A ratio that is at most 1, with a denominator that is small enough, and not far below 0. -/
def Smn (N D : Int) : Prop := 1 ≤ D ∧ D ≤ 200000000 ∧ -200000000 ≤ N ∧ N ≤ D
theorem Sml.smn {N D : Int} (h : Sml N D) : Smn N D := ⟨h.1, h.2.1, by have := h.2.2.1; omega, h.2.2.2⟩
theorem smn_mul {N D N' D' : Int} (h : Smn N D) (h' : Smn N' D') : wrap64 (N * D') = N * D' ∧ IntKind.i64.wrap (N * D') = N * D' := by
  obtain ⟨h1, h2, h3, h4⟩ := h
  obtain ⟨k1, k2, k3, k4⟩ := h'
  have b := Int.mul_le_mul_of_nonneg_right (show N ≤ 200000000 by omega) (by omega : 0 ≤ D')
  have c := Int.mul_le_mul_of_nonneg_right (show -200000000 ≤ N by omega) (by omega : 0 ≤ D')
  exact ⟨IntWalk.wrap64_in _ (by omega), IntWalk.i64_in _ (by omega)⟩
set_option maxHeartbeats 1000000 in
theorem less_non (N D N' D' : Int) (w : World) (h : Smn N D) (h' : Smn N' D') (hl : ¬ N * D' < N' * D) : Calls Tryd.prog 21 #[.agg #[.int .i64 N, .int .i64 D], .agg #[.int .i64 N', .int .i64 D']] w (RetB false w) := by
  obtain ⟨q1, q2⟩ := smn_mul h h'
  obtain ⟨q3, q4⟩ := smn_mul h' h
  obtain ⟨W0, hW0⟩ : ∃ W0, (w.alloc (.cells #[.int .i64 N, .int .i64 D] 26)).alloc (.cells #[.int .i64 N', .int .i64 D'] 26) = W0 := ⟨_, rfl⟩
  have G0 := Lib.hid (show Gr w W0 by rw [← hW0]; exact ((Gr.refl w).alloc _).alloc _)
  obtain ⟨p0, p1, _⟩ := (show Box2 W0 w.heap.size N D by rw [← hW0]; exact (Box2.new rfl).gr ((Gr.refl _).alloc _))
  obtain ⟨r0, r1, _⟩ := (show Box2 W0 (w.heap.size + 1) N' D' by rw [← hW0]; exact Box2.new (by simp))
  clear h h'
  go_enter Tryd.func21, Tryd.ntmps21
  go_wp2_with fail
  go_ret
  exact ⟨rfl, G0.out⟩

end Go.Proofs.YtohcnicadbpbbaaDoor

namespace Go.Proofs.YtohcnicadbpbbaaDoor

theorem pr_one : Prc 1 1 := ⟨by omega, by omega⟩
theorem S_one (f g : Nat → Int) (n : Nat) : sm g n * 1 * sm f n = sm f n * sm g n := by rw [Int.mul_one, Int.mul_comm]
theorem gn_bd {f g h : Nat → Int} {n q : Nat} (C : Cut n q h) (hf : ∀ i, 0 ≤ f i) (hg : ∀ i, 0 ≤ g i) : -(sm f n * sm g n) ≤ gnV f g n 1 1 h q ∧ gnV f g n 1 1 h q ≤ sm f n * sm g n := by
  have a : 0 ≤ kp f h q ∧ kp f h q ≤ sm f n := by rw [C.kp]; exact kS_bd hf _ n
  have b : 0 ≤ kp g h q ∧ kp g h q ≤ sm g n := by rw [C.kp]; exact kS_bd hg _ n
  have m1 := Int.mul_le_mul_of_nonneg_right b.2 (show 0 ≤ sm f n by omega)
  have m2 := Int.mul_nonneg b.1 (show 0 ≤ sm f n by omega)
  have m3 := Int.mul_le_mul_of_nonneg_right a.2 (show 0 ≤ sm g n by omega)
  have m4 := Int.mul_nonneg a.1 (show 0 ≤ sm g n by omega)
  have e := Int.mul_comm (sm g n) (sm f n)
  unfold gnV
  rw [Int.mul_one, Int.one_mul]
  omega
theorem red_smn {n d : Int} (hd : 0 < d) (hb : d ≤ 200000000) (h0 : -d ≤ n) (h : n ≤ d) : Smn (rN n d) (rD n d) := by
  have b := rD_pos (n := n) hd
  have c : rD n d ≤ d := Int.ediv_le_self _ (by omega)
  have g := gcd_pos n hd
  refine ⟨by omega, by omega, ?_, Int.ediv_le_ediv g h⟩
  have k : -d ≤ rN n d := by
    unfold rN
    refine (Int.le_ediv_iff_mul_le g).2 ?_
    have := Int.mul_le_mul_of_nonneg_left (show (1 : Int) ≤ (Int.gcd n d : Int) by omega) (show 0 ≤ d by omega)
    rw [Int.neg_mul]
    omega
  omega
theorem far_not {f g h : Nat → Int} {n q : Nat} (C : Cut n q h) (hd : 0 < sm f n * sm g n) :
    ¬ rN (apP f g n) (sm f n * sm g n) * rD (gnV f g n 1 1 h q) (sm f n * sm g n) < rN (gnV f g n 1 1 h q) (sm f n * sm g n) * rD (apP f g n) (sm f n * sm g n) := by
  refine red_not hd hd (Int.mul_le_mul_of_nonneg_right ?_ (by omega))
  rw [← far_is]
  exact gnV_top C

end Go.Proofs.YtohcnicadbpbbaaDoor
