/- The walk of WeighProofs: it returns true at all odds, cuts and prices. -/
import Derived.Test.YtohcnicadbpbbaaDoorGains
import Derived.Test.YtohcnicadbpbbaaDoorWY
namespace Go.Proofs.YtohcnicadbpbbaaDoor
open Go.RowKit Go.Firn

theorem nn_all2 {n : Nat} {f : Nat → Int} (V : VW n f) (hf : ∀ i, n ≤ i → f i = 0) (i : Nat) : 0 ≤ f i := by
  by_cases h : i < n
  · exact (V.ok i h).1
  · rw [hf i (by omega)]; exact Int.le_refl 0
theorem kp_all3 {n q : Nat} {f h : Nat → Int} (C : Cut n q h) (_V : VW n f) (hf : ∀ i, 0 ≤ f i) : 0 ≤ kp f h q ∧ kp f h q ≤ sm f n := by
  rw [C.kp]
  exact kS_bd hf _ n
theorem red_inj {n m d : Int} (hd : 0 < d) (h1 : rN n d = rN m d) (h2 : rD n d = rD m d) : n = m := by
  have a : ¬ n < m := fun h => by
    have := (red_lt hd hd).2 (Int.mul_lt_mul_of_pos_right h hd)
    rw [h1, h2] at this
    omega
  have b : ¬ m < n := fun h => by
    have := (red_lt hd hd).2 (Int.mul_lt_mul_of_pos_right h hd)
    rw [h1, h2] at this
    omega
  omega
/-- A cut that is proved: no cut with as little noise has more signal. -/
theorem proved_best {f g h u : Nat → Int} {n q q4 : Nat} {P D : Int} (V : VO n n f g) (hp : Prc P D) (C4 : Cut n q4 u) (hG : gnV f g n P D h q = topV f g n P D) (hn : kp f u q4 ≤ kp f h q) : kp g u q4 ≤ kp g h q := by
  have t := gnV_top (f := f) (g := g) (P := P) (D := D) C4
  rw [← hG] at t
  unfold gnV at t
  have s1 := V.noise.sum
  have s2 := V.signal.sum
  have hD : 0 < D := by have := hp.1; omega
  have m1 : P * kp f u q4 * sm g n ≤ P * kp f h q * sm g n := Int.mul_le_mul_of_nonneg_right (Int.mul_le_mul_of_nonneg_left hn hp.2.1) (by omega)
  have m2 : kp g u q4 * D * sm f n ≤ kp g h q * D * sm f n := by omega
  have m3 : kp g u q4 * D ≤ kp g h q * D := Int.le_of_mul_le_mul_right m2 (by omega)
  exact Int.le_of_mul_le_mul_right m3 hD

set_option maxHeartbeats 16000000 in
set_option maxRecDepth 100000 in
theorem proofs_walk (a b : Option Addr) (n c m d : Nat) (f g : Nat → Int) (a3 : Option Addr) (q c3 : Nat) (h : Nat → Int) (a4 : Option Addr) (q4 c4 : Nat) (u : Nat → Int) (P D : Int) (w : World) (_hn : n ≤ 9223372036854775807) (_hm : m ≤ 9223372036854775807) (_nc : n ≤ c) (_cl : c ≤ maxLen) (_md : m ≤ d) (_dl : d ≤ maxLen) (_fz : ∀ i, n ≤ i → f i = 0) (_gz : ∀ i, m ≤ i → g i = 0) (hr : RdI w a n f) (hs : RdI w b m g) (_hq3 : q ≤ 9223372036854775807) (_qc3 : q ≤ c3) (_cl3 : c3 ≤ maxLen) (ht3 : RdI w a3 q h) (_hq4 : q4 ≤ 9223372036854775807) (_qc4 : q4 ≤ c4) (_cl4 : c4 ≤ maxLen) (ht4 : RdI w a4 q4 u) (_wP : (Lit.int .i64 P).wf = true) (_wD : (Lit.int .i64 D).wf = true) (hT : Tab w) :
    Calls Tryd.prog 4 #[.agg #[.slice a n c, .slice b m d], .slice a3 q c3, .slice a4 q4 c4, .agg #[.int .i64 P, .int .i64 D]] w (RetB true w) := by
  obtain ⟨X0, hX0⟩ : ∃ X0, (w.alloc (.cells #[.slice a n c, .slice b m d] 24)).alloc (.cells #[.int .i64 P, .int .i64 D] 26) = X0 := ⟨_, rfl⟩
  have G0 := Lib.hid (show Gr w X0 by rw [← hX0]; exact ((Gr.refl w).alloc _).alloc _)
  have BA := Lib.hid (show BoxO X0 w.heap.size (.slice a n c) (.slice b m d) by rw [← hX0]; exact (BoxO.new rfl).gr ((Gr.refl _).alloc _))
  have BB := Lib.hid (show Box2 X0 (w.heap.size + 1) P D by rw [← hX0]; exact Box2.new (by simp))
  obtain ⟨p0, p1⟩ := BA.out
  obtain ⟨s0, s1, _⟩ := BB.out
  have HL := Lib.hid (fun w1 => Long_any a b n c m d w1)
  clear _hn _hm _nc _cl _md _dl _qc3 _cl3 _wP _wD _hq3 _hq4 _qc4 _cl4
  by_cases l0 : lgO n m = true
  · rw [l0] at HL
    clear hr hs l0 ht3 ht4 hT _fz _gz
    go_enter Tryd.func4, Tryd.ntmps4
    go_wp2_with (first
      | (go_at_call 8; (with_reducible refine (HL.out _).mono ?_); rintro e W1 ⟨rfl, g1⟩; have G1 := Lib.hid (G0.out.trans g1); have BA := Lib.hid (BA.out.gr g1); have BB := Lib.hid (BB.out.gr g1); clear p0 p1 s0 s1; obtain ⟨p0, p1⟩ := BA.out; obtain ⟨s0, s1, _⟩ := BB.out; clear g1)
      | (go_at_call 9; refine (Awake_any _).mono ?_; rintro e w9 ⟨rfl, g9⟩))
    go_ret
    exact ⟨rfl, G1.out.trans g9⟩
  rw [Bool.not_eq_true] at l0
  rw [l0] at HL
  have l60 := lgO_false.1 l0
  by_cases hq : 60 < q
  · have i1 : (60 : Int) < (q : Int) := by omega
    have i2 : (q : Int) > 60 := by omega
    clear hr hs l0 ht3 ht4 hT _fz _gz l60
    go_enter Tryd.func4, Tryd.ntmps4
    go_wp2_with (first
      | (go_at_call 8; (with_reducible refine (HL.out _).mono ?_); rintro e W1 ⟨rfl, g1⟩; have G1 := Lib.hid (G0.out.trans g1); have BA := Lib.hid (BA.out.gr g1); have BB := Lib.hid (BB.out.gr g1); clear p0 p1 s0 s1; obtain ⟨p0, p1⟩ := BA.out; obtain ⟨s0, s1, _⟩ := BB.out; clear g1)
      | (go_at_call 9; refine (Awake_any _).mono ?_; rintro e w9 ⟨rfl, g9⟩))
    go_ret
    exact ⟨rfl, G1.out.trans g9⟩
  have i1 : ¬ (60 : Int) < (q : Int) := by omega
  have i2 : ¬ (q : Int) > 60 := by omega
  by_cases hq4 : 60 < q4
  · have i3 : (60 : Int) < (q4 : Int) := by omega
    have i4 : (q4 : Int) > 60 := by omega
    clear hr hs l0 ht3 ht4 hT _fz _gz l60 hq
    go_enter Tryd.func4, Tryd.ntmps4
    go_wp2_with (first
      | (go_at_call 8; (with_reducible refine (HL.out _).mono ?_); rintro e W1 ⟨rfl, g1⟩; have G1 := Lib.hid (G0.out.trans g1); have BA := Lib.hid (BA.out.gr g1); have BB := Lib.hid (BB.out.gr g1); clear p0 p1 s0 s1; obtain ⟨p0, p1⟩ := BA.out; obtain ⟨s0, s1, _⟩ := BB.out; clear g1)
      | (go_at_call 9; refine (Awake_any _).mono ?_; rintro e w9 ⟨rfl, g9⟩))
    go_ret
    exact ⟨rfl, G1.out.trans g9⟩
  have i3 : ¬ (60 : Int) < (q4 : Int) := by omega
  have i4 : ¬ (q4 : Int) > 60 := by omega
  have CV := Lib.hid (fun w1 (k : Gr w w1) => refValid_any a b n c m d f g w1 (by omega) (by omega) (hr.gr k) (hs.gr k))
  cases hv : vO n m f g with
  | false =>
    rw [hv] at CV
    clear hr hs l0 ht3 ht4 hT _fz _gz l60 hq hq4 hv
    go_enter Tryd.func4, Tryd.ntmps4
    go_wp2_with (first
      | (go_at_call 8; (with_reducible refine (HL.out _).mono ?_); rintro e W1 ⟨rfl, g1⟩; have G1 := Lib.hid (G0.out.trans g1); have BA := Lib.hid (BA.out.gr g1); have BB := Lib.hid (BB.out.gr g1); clear p0 p1 s0 s1; obtain ⟨p0, p1⟩ := BA.out; obtain ⟨s0, s1, _⟩ := BB.out; clear g1)
      | (go_at_call 17; (with_reducible refine (CV.out _ G1.out).mono ?_); rintro e v2 ⟨rfl, g2⟩; have G2 := Lib.hid (G1.out.trans g2); have BA := Lib.hid (BA.out.gr g2); have BB := Lib.hid (BB.out.gr g2); clear p0 p1 s0 s1; obtain ⟨p0, p1⟩ := BA.out; obtain ⟨s0, s1, _⟩ := BB.out; clear g2)
      | (go_at_call 9; refine (Awake_any _).mono ?_; rintro e w9 ⟨rfl, g9⟩))
    go_ret
    exact ⟨rfl, G2.out.trans g9⟩
  | true =>
  rw [hv] at CV
  have CI1 := Lib.hid (fun w1 (k : Gr w w1) => refIsCut_any a a3 n c q c3 (.slice b m d) h w1 (by omega) (ht3.gr k))
  have CI2 := Lib.hid (fun w1 (k : Gr w w1) => refIsCut_any a a4 n c q4 c4 (.slice b m d) u w1 (by omega) (ht4.gr k))
  cases hc : cutB n q h with
  | false =>
    rw [hc] at CI1
    clear hr hs l0 ht3 ht4 hT _fz _gz l60 hq hq4 hv hc
    go_enter Tryd.func4, Tryd.ntmps4
    go_wp2_with (first
      | (go_at_call 8; (with_reducible refine (HL.out _).mono ?_); rintro e W1 ⟨rfl, g1⟩; have G1 := Lib.hid (G0.out.trans g1); have BA := Lib.hid (BA.out.gr g1); have BB := Lib.hid (BB.out.gr g1); clear p0 p1 s0 s1; obtain ⟨p0, p1⟩ := BA.out; obtain ⟨s0, s1, _⟩ := BB.out; clear g1)
      | (go_at_call 17; (with_reducible refine (CV.out _ G1.out).mono ?_); rintro e v2 ⟨rfl, g2⟩; have G2 := Lib.hid (G1.out.trans g2); have BA := Lib.hid (BA.out.gr g2); have BB := Lib.hid (BB.out.gr g2); clear p0 p1 s0 s1; obtain ⟨p0, p1⟩ := BA.out; obtain ⟨s0, s1, _⟩ := BB.out; clear g2)
      | (go_at_call 18; (with_reducible refine (CI1.out _ G2.out).mono ?_); rintro e v3 ⟨rfl, g3⟩; have G3 := Lib.hid (G2.out.trans g3); have BA := Lib.hid (BA.out.gr g3); have BB := Lib.hid (BB.out.gr g3); clear p0 p1 s0 s1; obtain ⟨p0, p1⟩ := BA.out; obtain ⟨s0, s1, _⟩ := BB.out; clear g3)
      | (go_at_call 9; refine (Awake_any _).mono ?_; rintro e w9 ⟨rfl, g9⟩))
    go_ret
    exact ⟨rfl, G3.out.trans g9⟩
  | true =>
  rw [hc] at CI1
  cases hc4 : cutB n q4 u with
  | false =>
    rw [hc4] at CI2
    clear hr hs l0 ht3 ht4 hT _fz _gz l60 hq hq4 hv hc hc4
    go_enter Tryd.func4, Tryd.ntmps4
    go_wp2_with (first
      | (go_at_call 8; (with_reducible refine (HL.out _).mono ?_); rintro e W1 ⟨rfl, g1⟩; have G1 := Lib.hid (G0.out.trans g1); have BA := Lib.hid (BA.out.gr g1); have BB := Lib.hid (BB.out.gr g1); clear p0 p1 s0 s1; obtain ⟨p0, p1⟩ := BA.out; obtain ⟨s0, s1, _⟩ := BB.out; clear g1)
      | (go_at_call 17; (with_reducible refine (CV.out _ G1.out).mono ?_); rintro e v2 ⟨rfl, g2⟩; have G2 := Lib.hid (G1.out.trans g2); have BA := Lib.hid (BA.out.gr g2); have BB := Lib.hid (BB.out.gr g2); clear p0 p1 s0 s1; obtain ⟨p0, p1⟩ := BA.out; obtain ⟨s0, s1, _⟩ := BB.out; clear g2)
      | (go_at_call 18; (with_reducible refine (CI1.out _ G2.out).mono ?_); rintro e v3 ⟨rfl, g3⟩; have G3 := Lib.hid (G2.out.trans g3); have BA := Lib.hid (BA.out.gr g3); have BB := Lib.hid (BB.out.gr g3); clear p0 p1 s0 s1; obtain ⟨p0, p1⟩ := BA.out; obtain ⟨s0, s1, _⟩ := BB.out; clear g3)
      | (go_at_call 18; (with_reducible refine (CI2.out _ G3.out).mono ?_); rintro e v4 ⟨rfl, g4⟩; have G4 := Lib.hid (G3.out.trans g4); have BA := Lib.hid (BA.out.gr g4); have BB := Lib.hid (BB.out.gr g4); clear p0 p1 s0 s1; obtain ⟨p0, p1⟩ := BA.out; obtain ⟨s0, s1, _⟩ := BB.out; clear g4)
      | (go_at_call 9; refine (Awake_any _).mono ?_; rintro e w9 ⟨rfl, g9⟩))
    go_ret
    exact ⟨rfl, G4.out.trans g9⟩
  | true =>
  rw [hc4] at CI2
  have V := vO_iff.1 hv
  obtain rfl := V.same
  have C3 := cutB_iff.1 hc
  have C4 := cutB_iff.1 hc4
  have CP := Lib.hid (fun w1 => IsPrice_any P D w1)
  cases hp : prB P D with
  | false =>
    rw [hp] at CP
    have E1 : prE n n f g q h P D = 2 := prE_price hv hc hp
    have E2 : deE n n f g P D = 2 := prE_price hv (cutB_iff.2 (cut_nil n _)) hp
    have H14 := Lib.hid (show ∀ w1, Gr w w1 → Calls Tryd.prog 14 #[.agg #[.slice a n c, .slice b n d], .slice a3 q c3, .agg #[.int .i64 P, .int .i64 D]] w1 (RetBE false 2 w1) from fun w1 k => by have t := Proves_err a b a3 n c n d q c3 f g h P D w1 (by omega) (by omega) (by omega) (hr.gr k) (hs.gr k) (ht3.gr k) (by omega); rwa [E1] at t)
    have H10 := Lib.hid (show ∀ w1, Gr w w1 → Calls Tryd.prog 10 #[.agg #[.slice a n c, .slice b n d], .slice a3 q c3, .agg #[.int .i64 P, .int .i64 D]] w1 (RetRE 0 0 2 w1) from fun w1 k => by have t := Gain_err a b a3 n c n d q c3 f g h P D w1 (by omega) (by omega) (by omega) (hr.gr k) (hs.gr k) (ht3.gr k) (by omega); rwa [E1] at t)
    obtain ⟨X, Y, H10⟩ : ∃ X Y : Int, Hid (∀ w1, Gr w w1 → Calls Tryd.prog 10 #[.agg #[.slice a n c, .slice b n d], .slice a3 q c3, .agg #[.int .i64 P, .int .i64 D]] w1 (RetRE X Y 2 w1)) := ⟨0, 0, H10⟩
    have H12 := Lib.hid (show ∀ w1, Gr w w1 → Calls Tryd.prog 12 #[.agg #[.slice a n c, .slice b n d], .agg #[.int .i64 P, .int .i64 D]] w1 (RetIs 0 (fun _ => 0) 2 w1) from fun w1 k => by have t := Dearest_err a b n c n d f g P D w1 (by omega) (by omega) (hr.gr k) (hs.gr k) (by omega); rwa [E2] at t)
    clear hr hs l0 ht3 ht4 hT _fz _gz l60 hq hq4 hv hc hc4 hp V C3 C4 E1 E2
    go_enter Tryd.func4, Tryd.ntmps4
    go_wp2_with (first
      | (go_at_call 8; (with_reducible refine (HL.out _).mono ?_); rintro e W1 ⟨rfl, g1⟩; have G1 := Lib.hid (G0.out.trans g1); have BA := Lib.hid (BA.out.gr g1); have BB := Lib.hid (BB.out.gr g1); clear p0 p1 s0 s1; obtain ⟨p0, p1⟩ := BA.out; obtain ⟨s0, s1, _⟩ := BB.out; clear g1)
      | (go_at_call 17; (with_reducible refine (CV.out _ G1.out).mono ?_); rintro e v2 ⟨rfl, g2⟩; have G2 := Lib.hid (G1.out.trans g2); have BA := Lib.hid (BA.out.gr g2); have BB := Lib.hid (BB.out.gr g2); clear p0 p1 s0 s1; obtain ⟨p0, p1⟩ := BA.out; obtain ⟨s0, s1, _⟩ := BB.out; clear g2)
      | (go_at_call 18; (with_reducible refine (CI1.out _ G2.out).mono ?_); rintro e v3 ⟨rfl, g3⟩; have G3 := Lib.hid (G2.out.trans g3); have BA := Lib.hid (BA.out.gr g3); have BB := Lib.hid (BB.out.gr g3); clear p0 p1 s0 s1; obtain ⟨p0, p1⟩ := BA.out; obtain ⟨s0, s1, _⟩ := BB.out; clear g3)
      | (go_at_call 18; (with_reducible refine (CI2.out _ G3.out).mono ?_); rintro e v4 ⟨rfl, g4⟩; have G4 := Lib.hid (G3.out.trans g4); have BA := Lib.hid (BA.out.gr g4); have BB := Lib.hid (BB.out.gr g4); clear p0 p1 s0 s1; obtain ⟨p0, p1⟩ := BA.out; obtain ⟨s0, s1, _⟩ := BB.out; clear g4)
      | (go_at_call 14; (with_reducible refine (H14.out _ G4.out).mono ?_); rintro e v5 ⟨rfl, g5⟩; have G5 := Lib.hid (G4.out.trans g5); have BA := Lib.hid (BA.out.gr g5); have BB := Lib.hid (BB.out.gr g5); clear p0 p1 s0 s1; obtain ⟨p0, p1⟩ := BA.out; obtain ⟨s0, s1, _⟩ := BB.out; clear g5)
      | (go_at_call 10; (with_reducible refine (H10.out _ G5.out).mono ?_); rintro e v6 ⟨rfl, g6⟩; have gg := g6.alloc (.cells #[.int .i64 (X), .int .i64 (Y)] 26); obtain ⟨V6, hV6⟩ : ∃ V6, v6.alloc (.cells #[.int .i64 (X), .int .i64 (Y)] 26) = V6 := ⟨_, rfl⟩; rw [hV6] at gg; have G6 := Lib.hid (G5.out.trans gg); have BA := Lib.hid (BA.out.gr gg); have BB := Lib.hid (BB.out.gr gg); have R6 := Lib.hid (show Box2 V6 v6.heap.size (X) (Y) by rw [← hV6]; exact Box2.new rfl); clear p0 p1 s0 s1; obtain ⟨p0, p1⟩ := BA.out; obtain ⟨s0, s1, _⟩ := BB.out; clear gg g6)
      | (go_at_call 12; (with_reducible refine (H12.out _ G6.out).mono ?_); rintro e v7 ⟨a7x, c7x, rfl, _, _, q7, g7⟩; have L7 := Lib.hid q7; have G7 := Lib.hid (G6.out.trans g7); have BA := Lib.hid (BA.out.gr g7); have BB := Lib.hid (BB.out.gr g7); clear p0 p1 s0 s1; obtain ⟨p0, p1⟩ := BA.out; obtain ⟨s0, s1, _⟩ := BB.out; clear g7 q7)
      | (go_at_call 19; (with_reducible refine (CP.out _).mono ?_); rintro e v8 ⟨rfl, g8⟩; have G8 := Lib.hid (G7.out.trans g8); have BA := Lib.hid (BA.out.gr g8); have BB := Lib.hid (BB.out.gr g8); clear p0 p1 s0 s1; obtain ⟨p0, p1⟩ := BA.out; obtain ⟨s0, s1, _⟩ := BB.out; clear g8)
      | (go_at_call 9; refine (Awake_any _).mono ?_; rintro e w9 ⟨rfl, g9⟩))
    go_ret
    exact ⟨rfl, G8.out.trans g9⟩
  | true =>
  rw [hp] at CP
  have R := prB_iff.1 hp
  have F := nn_all2 V.noise _fz
  have Gn := nn_all2 V.signal _gz
  have n10 := V.noise.few
  have H14 := Lib.hid (fun w1 (k : Gr w w1) => Proves_ok a b a3 n c d q c3 f g h P D w1 (hr.gr k) (hs.gr k) (ht3.gr k) V C3 R (hT.gr k))
  have H10 := Lib.hid (fun w1 (k : Gr w w1) => Gain_ok a b a3 n c d q c3 f g h P D w1 (hr.gr k) (hs.gr k) (ht3.gr k) V C3 R)
  have H12 := Lib.hid (fun w1 (k : Gr w w1) => Dearest_ok a b n c d f g P D w1 (hr.gr k) (hs.gr k) V R (hT.gr k))
  have D10 := Lib.hid (show ∀ w1, Gr w w1 → ∀ av cv, RdI w1 av (cS n (drB f g n P D)).length (nf (cS n (drB f g n P D))) → Calls Tryd.prog 10 #[.agg #[.slice a n c, .slice b n d], .slice av (cS n (drB f g n P D)).length cv, .agg #[.int .i64 P, .int .i64 D]] w1 (RetRE (rN (topV f g n P D) (sm g n * D * sm f n)) (rD (topV f g n P D) (sm g n * D * sm f n)) 0 w1) from fun w1 k av cv hx => by
    have t := Gain_ok a b av n c d _ cv f g _ P D w1 (hr.gr k) (hs.gr k) hx V (cS_cut n _) R
    rwa [gnV_onL] at t)
  have D14 := Lib.hid (show ∀ w1, Gr w w1 → ∀ av cv, RdI w1 av (cS n (drB f g n P D)).length (nf (cS n (drB f g n P D))) → Calls Tryd.prog 14 #[.agg #[.slice a n c, .slice b n d], .slice av (cS n (drB f g n P D)).length cv, .agg #[.int .i64 P, .int .i64 D]] w1 (RetBE true 0 w1) from fun w1 k av cv hx => by
    have t := Proves_ok a b av n c d _ cv f g _ P D w1 (hr.gr k) (hs.gr k) hx V (cS_cut n _) R (hT.gr k)
    rwa [gnV_onL, show (gS f g n P D (drB f g n P D) == topV f g n P D) = true from beq_self_eq_true _] at t)
  have K1 := Lib.hid (fun w1 (k : Gr w w1) => kept_yes a b a3 n c d q c3 f g h w1 (hr.gr k) (hs.gr k) (ht3.gr k) F Gn V C3)
  have K2 := Lib.hid (fun w1 (k : Gr w w1) => kept_yes a b a4 n c d q4 c4 f g u w1 (hr.gr k) (hs.gr k) (ht4.gr k) F Gn V C4)
  have sf := V.noise.sum
  have sg := V.signal.sum
  have bf := sm_le10 V.noise
  have bg := sm_le10 V.signal
  have kf3 := kp_all3 C3 V.noise F
  have kg3 := kp_all3 C3 V.signal Gn
  have kf4 := kp_all3 C4 V.noise F
  have kg4 := kp_all3 C4 V.signal Gn
  have SA := Lib.hid (sml_red sf.1 (by omega) kf3.1 kf3.2)
  have SB := Lib.hid (sml_red sg.1 (by omega) kg3.1 kg3.2)
  have SC := Lib.hid (sml_red sf.1 (by omega) kf4.1 kf4.2)
  have SD := Lib.hid (sml_red sg.1 (by omega) kg4.1 kg4.2)
  have LT := Lib.hid (show (rN (kp f h q) (sm f n) * rD (kp f u q4) (sm f n) < rN (kp f u q4) (sm f n) * rD (kp f h q) (sm f n)) ∨ (¬ (rN (kp f h q) (sm f n) * rD (kp f u q4) (sm f n) < rN (kp f u q4) (sm f n) * rD (kp f h q) (sm f n)) ∧ (gnV f g n P D h q = topV f g n P D → ¬ (rN (kp g h q) (sm g n) * rD (kp g u q4) (sm g n) < rN (kp g u q4) (sm g n) * rD (kp g h q) (sm g n)))) from by
    by_cases t : kp f h q * sm f n < kp f u q4 * sm f n
    · exact .inl ((red_lt sf.1 sf.1).2 t)
    · refine .inr ⟨fun x => t ((red_lt sf.1 sf.1).1 x), fun hG x => ?_⟩
      have y := (red_lt sg.1 sg.1).1 x
      have z := proved_best V R C4 hG (Int.le_of_mul_le_mul_right (by omega : kp f u q4 * sm f n ≤ kp f h q * sm f n) sf.1)
      have := Int.mul_le_mul_of_nonneg_right z (by omega : 0 ≤ sm g n)
      omega)
  have IJ := Lib.hid (fun h1 h2 => red_inj (n := gnV f g n P D h q) (m := topV f g n P D) (gnV_sz V C3 R).2.2.1 h1 h2)
  by_cases hG : gnV f g n P D h q = topV f g n P D
  · have H14 := Lib.hid (show ∀ w1, Gr w w1 → Calls Tryd.prog 14 #[.agg #[.slice a n c, .slice b n d], .slice a3 q c3, .agg #[.int .i64 P, .int .i64 D]] w1 (RetBE true 0 w1) from fun w1 k => by
      have t := H14.out w1 k
      rwa [show (gnV f g n P D h q == topV f g n P D) = true from by simp [hG]] at t)
    rw [← hG] at D10
    have LT := Lib.hid (LT.out.imp id fun x => And.intro x.1 (x.2 hG))
    clear IJ
    clear hr hs l0 ht3 ht4 hT _fz _gz l60 hq hq4 hv hc hc4 hG hp V C3 C4 R F Gn sf sg bf bg kf3 kg3 kf4 kg4
    generalize rN (gnV f g n P D h q) (sm g n * D * sm f n) = N1 at *
    generalize rD (gnV f g n P D h q) (sm g n * D * sm f n) = D1 at *
    generalize rN (kp f h q) (sm f n) = A1 at *
    generalize rD (kp f h q) (sm f n) = B1 at *
    generalize rN (kp g h q) (sm g n) = A2 at *
    generalize rD (kp g h q) (sm g n) = B2 at *
    generalize rN (kp f u q4) (sm f n) = A3 at *
    generalize rD (kp f u q4) (sm f n) = B3 at *
    generalize rN (kp g u q4) (sm g n) = A4 at *
    generalize rD (kp g u q4) (sm g n) = B4 at *
    generalize cS n (drB f g n P D) = L at *
    rcases LT.out with t | ⟨t, t2⟩
    · have M1 := Lib.hid (fun w1 => less_yes A1 B1 A3 B3 w1 SA.out SC.out t)
      clear t LT SA SB SC SD
      go_enter Tryd.func4, Tryd.ntmps4
      go_wp2_with (first
        | (go_at_call 8; (with_reducible refine (HL.out _).mono ?_); rintro e W1 ⟨rfl, g1⟩; have G1 := Lib.hid (G0.out.trans g1); have BA := Lib.hid (BA.out.gr g1); have BB := Lib.hid (BB.out.gr g1); clear p0 p1 s0 s1; obtain ⟨p0, p1⟩ := BA.out; obtain ⟨s0, s1, _⟩ := BB.out; clear g1)
        | (go_at_call 17; (with_reducible refine (CV.out _ G1.out).mono ?_); rintro e v2 ⟨rfl, g2⟩; have G2 := Lib.hid (G1.out.trans g2); have BA := Lib.hid (BA.out.gr g2); have BB := Lib.hid (BB.out.gr g2); clear p0 p1 s0 s1; obtain ⟨p0, p1⟩ := BA.out; obtain ⟨s0, s1, _⟩ := BB.out; clear g2)
        | (go_at_call 18; (with_reducible refine (CI1.out _ G2.out).mono ?_); rintro e v3 ⟨rfl, g3⟩; have G3 := Lib.hid (G2.out.trans g3); have BA := Lib.hid (BA.out.gr g3); have BB := Lib.hid (BB.out.gr g3); clear p0 p1 s0 s1; obtain ⟨p0, p1⟩ := BA.out; obtain ⟨s0, s1, _⟩ := BB.out; clear g3)
        | (go_at_call 18; (with_reducible refine (CI2.out _ G3.out).mono ?_); rintro e v4 ⟨rfl, g4⟩; have G4 := Lib.hid (G3.out.trans g4); have BA := Lib.hid (BA.out.gr g4); have BB := Lib.hid (BB.out.gr g4); clear p0 p1 s0 s1; obtain ⟨p0, p1⟩ := BA.out; obtain ⟨s0, s1, _⟩ := BB.out; clear g4)
        | (go_at_call 14; (with_reducible refine (H14.out _ G4.out).mono ?_); rintro e v5 ⟨rfl, g5⟩; have G5 := Lib.hid (G4.out.trans g5); have BA := Lib.hid (BA.out.gr g5); have BB := Lib.hid (BB.out.gr g5); clear p0 p1 s0 s1; obtain ⟨p0, p1⟩ := BA.out; obtain ⟨s0, s1, _⟩ := BB.out; clear g5)
        | (go_at_call 10; (with_reducible refine (H10.out _ G5.out).mono ?_); rintro e v6 ⟨rfl, g6⟩; have gg := g6.alloc (.cells #[.int .i64 (N1), .int .i64 (D1)] 26); obtain ⟨V6, hV6⟩ : ∃ V6, v6.alloc (.cells #[.int .i64 (N1), .int .i64 (D1)] 26) = V6 := ⟨_, rfl⟩; rw [hV6] at gg; have G6 := Lib.hid (G5.out.trans gg); have BA := Lib.hid (BA.out.gr gg); have BB := Lib.hid (BB.out.gr gg); have R6 := Lib.hid (show Box2 V6 v6.heap.size (N1) (D1) by rw [← hV6]; exact Box2.new rfl); clear p0 p1 s0 s1; obtain ⟨p0, p1⟩ := BA.out; obtain ⟨s0, s1, _⟩ := BB.out; clear gg g6)
        | (go_at_call 12; (with_reducible refine (H12.out _ G6.out).mono ?_); rintro e v7 ⟨a7x, c7x, rfl, _, _, q7, g7⟩; have L7 := Lib.hid q7; have G7 := Lib.hid (G6.out.trans g7); have BA := Lib.hid (BA.out.gr g7); have BB := Lib.hid (BB.out.gr g7); have R6 := Lib.hid (R6.out.gr g7); clear p0 p1 s0 s1; obtain ⟨p0, p1⟩ := BA.out; obtain ⟨s0, s1, _⟩ := BB.out; clear g7 q7)
        | (go_at_call 19; (with_reducible refine (CP.out _).mono ?_); rintro e v8 ⟨rfl, g8⟩; have G8 := Lib.hid (G7.out.trans g8); have BA := Lib.hid (BA.out.gr g8); have BB := Lib.hid (BB.out.gr g8); have R6 := Lib.hid (R6.out.gr g8); have L7 := Lib.hid (L7.out.gr g8); clear p0 p1 s0 s1; obtain ⟨p0, p1⟩ := BA.out; obtain ⟨s0, s1, _⟩ := BB.out; clear g8)
        | (go_at_call 10; (with_reducible refine (D10.out _ G8.out _ _ L7.out).mono ?_); rintro e v9 ⟨rfl, g9⟩; have gg := g9.alloc (.cells #[.int .i64 (N1), .int .i64 (D1)] 26); obtain ⟨V9, hV9⟩ : ∃ V9, v9.alloc (.cells #[.int .i64 (N1), .int .i64 (D1)] 26) = V9 := ⟨_, rfl⟩; rw [hV9] at gg; have G9 := Lib.hid (G8.out.trans gg); have BA := Lib.hid (BA.out.gr gg); have BB := Lib.hid (BB.out.gr gg); have R9 := Lib.hid (show Box2 V9 v9.heap.size (N1) (D1) by rw [← hV9]; exact Box2.new rfl); have R6 := Lib.hid (R6.out.gr gg); have L7 := Lib.hid (L7.out.gr gg); clear p0 p1 s0 s1; obtain ⟨p0, p1⟩ := BA.out; obtain ⟨s0, s1, _⟩ := BB.out; clear gg g9)
        | (go_at_call 14; (with_reducible refine (D14.out _ G9.out _ _ L7.out).mono ?_); rintro e v10 ⟨rfl, g10⟩; have G10 := Lib.hid (G9.out.trans g10); have BA := Lib.hid (BA.out.gr g10); have BB := Lib.hid (BB.out.gr g10); have R6 := Lib.hid (R6.out.gr g10); have R9 := Lib.hid (R9.out.gr g10); (try clear xR6 yR6); obtain ⟨xR6, yR6, _⟩ := R6.out; (try clear xR9 yR9); obtain ⟨xR9, yR9, _⟩ := R9.out; clear p0 p1 s0 s1; obtain ⟨p0, p1⟩ := BA.out; obtain ⟨s0, s1, _⟩ := BB.out; clear g10)
        | (go_at_call 20; (with_reducible refine (K1.out _ G10.out).mono ?_); rintro e v11 ⟨rfl, g11⟩; have gg := (g11.alloc (.cells #[.int .i64 A1, .int .i64 B1] 26)).alloc (.cells #[.int .i64 A2, .int .i64 B2] 26); obtain ⟨V11, hV11⟩ : ∃ V11, (v11.alloc (.cells #[.int .i64 A1, .int .i64 B1] 26)).alloc (.cells #[.int .i64 A2, .int .i64 B2] 26) = V11 := ⟨_, rfl⟩; rw [hV11] at gg; have G11 := Lib.hid (G10.out.trans gg); have BA := Lib.hid (BA.out.gr gg); have BB := Lib.hid (BB.out.gr gg); have Y11 := Lib.hid (show Box2 V11 v11.heap.size A1 B1 by rw [← hV11]; exact (Box2.new rfl).gr ((Gr.refl _).alloc _)); have Z11 := Lib.hid (show Box2 V11 (v11.heap.size + 1) A2 B2 by rw [← hV11]; exact Box2.new (by simp)); (try clear xY11 yY11); obtain ⟨xY11, yY11, _⟩ := Y11.out; (try clear xZ11 yZ11); obtain ⟨xZ11, yZ11, _⟩ := Z11.out; clear p0 p1 s0 s1; obtain ⟨p0, p1⟩ := BA.out; obtain ⟨s0, s1, _⟩ := BB.out; clear gg g11)
        | (go_at_call 20; (with_reducible refine (K2.out _ G11.out).mono ?_); rintro e v12 ⟨rfl, g12⟩; have gg := (g12.alloc (.cells #[.int .i64 A3, .int .i64 B3] 26)).alloc (.cells #[.int .i64 A4, .int .i64 B4] 26); obtain ⟨V12, hV12⟩ : ∃ V12, (v12.alloc (.cells #[.int .i64 A3, .int .i64 B3] 26)).alloc (.cells #[.int .i64 A4, .int .i64 B4] 26) = V12 := ⟨_, rfl⟩; rw [hV12] at gg; have G12 := Lib.hid (G11.out.trans gg); have BA := Lib.hid (BA.out.gr gg); have BB := Lib.hid (BB.out.gr gg); have Y12 := Lib.hid (show Box2 V12 v12.heap.size A3 B3 by rw [← hV12]; exact (Box2.new rfl).gr ((Gr.refl _).alloc _)); have Z12 := Lib.hid (show Box2 V12 (v12.heap.size + 1) A4 B4 by rw [← hV12]; exact Box2.new (by simp)); have Y11 := Lib.hid (Y11.out.gr gg); have Z11 := Lib.hid (Z11.out.gr gg); (try clear xY11 yY11); obtain ⟨xY11, yY11, _⟩ := Y11.out; (try clear xZ11 yZ11); obtain ⟨xZ11, yZ11, _⟩ := Z11.out; (try clear xY12 yY12); obtain ⟨xY12, yY12, _⟩ := Y12.out; (try clear xZ12 yZ12); obtain ⟨xZ12, yZ12, _⟩ := Z12.out; clear p0 p1 s0 s1; obtain ⟨p0, p1⟩ := BA.out; obtain ⟨s0, s1, _⟩ := BB.out; clear gg g12)
        | (go_at_call 21; (with_reducible refine (M1.out _).mono ?_); rintro e v13 ⟨rfl, g13⟩; have G13 := Lib.hid (G12.out.trans g13); have BA := Lib.hid (BA.out.gr g13); have BB := Lib.hid (BB.out.gr g13); have Y11 := Lib.hid (Y11.out.gr g13); have Z11 := Lib.hid (Z11.out.gr g13); have Y12 := Lib.hid (Y12.out.gr g13); have Z12 := Lib.hid (Z12.out.gr g13); (try clear xY11 yY11); obtain ⟨xY11, yY11, _⟩ := Y11.out; (try clear xZ11 yZ11); obtain ⟨xZ11, yZ11, _⟩ := Z11.out; (try clear xY12 yY12); obtain ⟨xY12, yY12, _⟩ := Y12.out; (try clear xZ12 yZ12); obtain ⟨xZ12, yZ12, _⟩ := Z12.out; clear p0 p1 s0 s1; obtain ⟨p0, p1⟩ := BA.out; obtain ⟨s0, s1, _⟩ := BB.out; clear g13)
        | (go_at_call 9; refine (Awake_any _).mono ?_; rintro e w9 ⟨rfl, g9⟩))
      go_ret
      exact ⟨rfl, G13.out.trans g9⟩
    · have M1 := Lib.hid (fun w1 => less_no A1 B1 A3 B3 w1 SA.out SC.out t)
      have M2 := Lib.hid (fun w1 => less_no A2 B2 A4 B4 w1 SB.out SD.out t2)
      clear t t2 LT SA SB SC SD
      go_enter Tryd.func4, Tryd.ntmps4
      go_wp2_with (first
        | (go_at_call 8; (with_reducible refine (HL.out _).mono ?_); rintro e W1 ⟨rfl, g1⟩; have G1 := Lib.hid (G0.out.trans g1); have BA := Lib.hid (BA.out.gr g1); have BB := Lib.hid (BB.out.gr g1); clear p0 p1 s0 s1; obtain ⟨p0, p1⟩ := BA.out; obtain ⟨s0, s1, _⟩ := BB.out; clear g1)
        | (go_at_call 17; (with_reducible refine (CV.out _ G1.out).mono ?_); rintro e v2 ⟨rfl, g2⟩; have G2 := Lib.hid (G1.out.trans g2); have BA := Lib.hid (BA.out.gr g2); have BB := Lib.hid (BB.out.gr g2); clear p0 p1 s0 s1; obtain ⟨p0, p1⟩ := BA.out; obtain ⟨s0, s1, _⟩ := BB.out; clear g2)
        | (go_at_call 18; (with_reducible refine (CI1.out _ G2.out).mono ?_); rintro e v3 ⟨rfl, g3⟩; have G3 := Lib.hid (G2.out.trans g3); have BA := Lib.hid (BA.out.gr g3); have BB := Lib.hid (BB.out.gr g3); clear p0 p1 s0 s1; obtain ⟨p0, p1⟩ := BA.out; obtain ⟨s0, s1, _⟩ := BB.out; clear g3)
        | (go_at_call 18; (with_reducible refine (CI2.out _ G3.out).mono ?_); rintro e v4 ⟨rfl, g4⟩; have G4 := Lib.hid (G3.out.trans g4); have BA := Lib.hid (BA.out.gr g4); have BB := Lib.hid (BB.out.gr g4); clear p0 p1 s0 s1; obtain ⟨p0, p1⟩ := BA.out; obtain ⟨s0, s1, _⟩ := BB.out; clear g4)
        | (go_at_call 14; (with_reducible refine (H14.out _ G4.out).mono ?_); rintro e v5 ⟨rfl, g5⟩; have G5 := Lib.hid (G4.out.trans g5); have BA := Lib.hid (BA.out.gr g5); have BB := Lib.hid (BB.out.gr g5); clear p0 p1 s0 s1; obtain ⟨p0, p1⟩ := BA.out; obtain ⟨s0, s1, _⟩ := BB.out; clear g5)
        | (go_at_call 10; (with_reducible refine (H10.out _ G5.out).mono ?_); rintro e v6 ⟨rfl, g6⟩; have gg := g6.alloc (.cells #[.int .i64 (N1), .int .i64 (D1)] 26); obtain ⟨V6, hV6⟩ : ∃ V6, v6.alloc (.cells #[.int .i64 (N1), .int .i64 (D1)] 26) = V6 := ⟨_, rfl⟩; rw [hV6] at gg; have G6 := Lib.hid (G5.out.trans gg); have BA := Lib.hid (BA.out.gr gg); have BB := Lib.hid (BB.out.gr gg); have R6 := Lib.hid (show Box2 V6 v6.heap.size (N1) (D1) by rw [← hV6]; exact Box2.new rfl); clear p0 p1 s0 s1; obtain ⟨p0, p1⟩ := BA.out; obtain ⟨s0, s1, _⟩ := BB.out; clear gg g6)
        | (go_at_call 12; (with_reducible refine (H12.out _ G6.out).mono ?_); rintro e v7 ⟨a7x, c7x, rfl, _, _, q7, g7⟩; have L7 := Lib.hid q7; have G7 := Lib.hid (G6.out.trans g7); have BA := Lib.hid (BA.out.gr g7); have BB := Lib.hid (BB.out.gr g7); have R6 := Lib.hid (R6.out.gr g7); clear p0 p1 s0 s1; obtain ⟨p0, p1⟩ := BA.out; obtain ⟨s0, s1, _⟩ := BB.out; clear g7 q7)
        | (go_at_call 19; (with_reducible refine (CP.out _).mono ?_); rintro e v8 ⟨rfl, g8⟩; have G8 := Lib.hid (G7.out.trans g8); have BA := Lib.hid (BA.out.gr g8); have BB := Lib.hid (BB.out.gr g8); have R6 := Lib.hid (R6.out.gr g8); have L7 := Lib.hid (L7.out.gr g8); clear p0 p1 s0 s1; obtain ⟨p0, p1⟩ := BA.out; obtain ⟨s0, s1, _⟩ := BB.out; clear g8)
        | (go_at_call 10; (with_reducible refine (D10.out _ G8.out _ _ L7.out).mono ?_); rintro e v9 ⟨rfl, g9⟩; have gg := g9.alloc (.cells #[.int .i64 (N1), .int .i64 (D1)] 26); obtain ⟨V9, hV9⟩ : ∃ V9, v9.alloc (.cells #[.int .i64 (N1), .int .i64 (D1)] 26) = V9 := ⟨_, rfl⟩; rw [hV9] at gg; have G9 := Lib.hid (G8.out.trans gg); have BA := Lib.hid (BA.out.gr gg); have BB := Lib.hid (BB.out.gr gg); have R9 := Lib.hid (show Box2 V9 v9.heap.size (N1) (D1) by rw [← hV9]; exact Box2.new rfl); have R6 := Lib.hid (R6.out.gr gg); have L7 := Lib.hid (L7.out.gr gg); clear p0 p1 s0 s1; obtain ⟨p0, p1⟩ := BA.out; obtain ⟨s0, s1, _⟩ := BB.out; clear gg g9)
        | (go_at_call 14; (with_reducible refine (D14.out _ G9.out _ _ L7.out).mono ?_); rintro e v10 ⟨rfl, g10⟩; have G10 := Lib.hid (G9.out.trans g10); have BA := Lib.hid (BA.out.gr g10); have BB := Lib.hid (BB.out.gr g10); have R6 := Lib.hid (R6.out.gr g10); have R9 := Lib.hid (R9.out.gr g10); (try clear xR6 yR6); obtain ⟨xR6, yR6, _⟩ := R6.out; (try clear xR9 yR9); obtain ⟨xR9, yR9, _⟩ := R9.out; clear p0 p1 s0 s1; obtain ⟨p0, p1⟩ := BA.out; obtain ⟨s0, s1, _⟩ := BB.out; clear g10)
        | (go_at_call 20; (with_reducible refine (K1.out _ G10.out).mono ?_); rintro e v11 ⟨rfl, g11⟩; have gg := (g11.alloc (.cells #[.int .i64 A1, .int .i64 B1] 26)).alloc (.cells #[.int .i64 A2, .int .i64 B2] 26); obtain ⟨V11, hV11⟩ : ∃ V11, (v11.alloc (.cells #[.int .i64 A1, .int .i64 B1] 26)).alloc (.cells #[.int .i64 A2, .int .i64 B2] 26) = V11 := ⟨_, rfl⟩; rw [hV11] at gg; have G11 := Lib.hid (G10.out.trans gg); have BA := Lib.hid (BA.out.gr gg); have BB := Lib.hid (BB.out.gr gg); have Y11 := Lib.hid (show Box2 V11 v11.heap.size A1 B1 by rw [← hV11]; exact (Box2.new rfl).gr ((Gr.refl _).alloc _)); have Z11 := Lib.hid (show Box2 V11 (v11.heap.size + 1) A2 B2 by rw [← hV11]; exact Box2.new (by simp)); (try clear xY11 yY11); obtain ⟨xY11, yY11, _⟩ := Y11.out; (try clear xZ11 yZ11); obtain ⟨xZ11, yZ11, _⟩ := Z11.out; clear p0 p1 s0 s1; obtain ⟨p0, p1⟩ := BA.out; obtain ⟨s0, s1, _⟩ := BB.out; clear gg g11)
        | (go_at_call 20; (with_reducible refine (K2.out _ G11.out).mono ?_); rintro e v12 ⟨rfl, g12⟩; have gg := (g12.alloc (.cells #[.int .i64 A3, .int .i64 B3] 26)).alloc (.cells #[.int .i64 A4, .int .i64 B4] 26); obtain ⟨V12, hV12⟩ : ∃ V12, (v12.alloc (.cells #[.int .i64 A3, .int .i64 B3] 26)).alloc (.cells #[.int .i64 A4, .int .i64 B4] 26) = V12 := ⟨_, rfl⟩; rw [hV12] at gg; have G12 := Lib.hid (G11.out.trans gg); have BA := Lib.hid (BA.out.gr gg); have BB := Lib.hid (BB.out.gr gg); have Y12 := Lib.hid (show Box2 V12 v12.heap.size A3 B3 by rw [← hV12]; exact (Box2.new rfl).gr ((Gr.refl _).alloc _)); have Z12 := Lib.hid (show Box2 V12 (v12.heap.size + 1) A4 B4 by rw [← hV12]; exact Box2.new (by simp)); have Y11 := Lib.hid (Y11.out.gr gg); have Z11 := Lib.hid (Z11.out.gr gg); (try clear xY11 yY11); obtain ⟨xY11, yY11, _⟩ := Y11.out; (try clear xZ11 yZ11); obtain ⟨xZ11, yZ11, _⟩ := Z11.out; (try clear xY12 yY12); obtain ⟨xY12, yY12, _⟩ := Y12.out; (try clear xZ12 yZ12); obtain ⟨xZ12, yZ12, _⟩ := Z12.out; clear p0 p1 s0 s1; obtain ⟨p0, p1⟩ := BA.out; obtain ⟨s0, s1, _⟩ := BB.out; clear gg g12)
        | (go_at_call 21; (with_reducible refine (M1.out _).mono ?_); rintro e v13 ⟨rfl, g13⟩; have G13 := Lib.hid (G12.out.trans g13); have BA := Lib.hid (BA.out.gr g13); have BB := Lib.hid (BB.out.gr g13); have Y11 := Lib.hid (Y11.out.gr g13); have Z11 := Lib.hid (Z11.out.gr g13); have Y12 := Lib.hid (Y12.out.gr g13); have Z12 := Lib.hid (Z12.out.gr g13); (try clear xY11 yY11); obtain ⟨xY11, yY11, _⟩ := Y11.out; (try clear xZ11 yZ11); obtain ⟨xZ11, yZ11, _⟩ := Z11.out; (try clear xY12 yY12); obtain ⟨xY12, yY12, _⟩ := Y12.out; (try clear xZ12 yZ12); obtain ⟨xZ12, yZ12, _⟩ := Z12.out; clear p0 p1 s0 s1; obtain ⟨p0, p1⟩ := BA.out; obtain ⟨s0, s1, _⟩ := BB.out; clear g13)
        | (go_at_call 21; (with_reducible refine (M2.out _).mono ?_); rintro e v14 ⟨rfl, g14⟩; have G14 := Lib.hid (G13.out.trans g14); have BA := Lib.hid (BA.out.gr g14); have BB := Lib.hid (BB.out.gr g14); have Y11 := Lib.hid (Y11.out.gr g14); have Z11 := Lib.hid (Z11.out.gr g14); have Y12 := Lib.hid (Y12.out.gr g14); have Z12 := Lib.hid (Z12.out.gr g14); (try clear xY11 yY11); obtain ⟨xY11, yY11, _⟩ := Y11.out; (try clear xZ11 yZ11); obtain ⟨xZ11, yZ11, _⟩ := Z11.out; (try clear xY12 yY12); obtain ⟨xY12, yY12, _⟩ := Y12.out; (try clear xZ12 yZ12); obtain ⟨xZ12, yZ12, _⟩ := Z12.out; clear p0 p1 s0 s1; obtain ⟨p0, p1⟩ := BA.out; obtain ⟨s0, s1, _⟩ := BB.out; clear g14)
        | (go_at_call 9; refine (Awake_any _).mono ?_; rintro e w9 ⟨rfl, g9⟩))
      go_ret
      exact ⟨rfl, G14.out.trans g9⟩
  · have H14 := Lib.hid (show ∀ w1, Gr w w1 → Calls Tryd.prog 14 #[.agg #[.slice a n c, .slice b n d], .slice a3 q c3, .agg #[.int .i64 P, .int .i64 D]] w1 (RetBE false 0 w1) from fun w1 k => by
      have t := H14.out w1 k
      rwa [show (gnV f g n P D h q == topV f g n P D) = false from by simp [hG]] at t)
    clear LT SA SB SC SD
    clear hr hs l0 ht3 ht4 hT _fz _gz l60 hq hq4 hv hc hc4 hp V C3 C4 R F Gn sf sg bf bg kf3 kg3 kf4 kg4
    generalize rN (gnV f g n P D h q) (sm g n * D * sm f n) = N1 at *
    generalize rD (gnV f g n P D h q) (sm g n * D * sm f n) = D1 at *
    generalize rN (kp f h q) (sm f n) = A1 at *
    generalize rD (kp f h q) (sm f n) = B1 at *
    generalize rN (kp g h q) (sm g n) = A2 at *
    generalize rD (kp g h q) (sm g n) = B2 at *
    generalize rN (kp f u q4) (sm f n) = A3 at *
    generalize rD (kp f u q4) (sm f n) = B3 at *
    generalize rN (kp g u q4) (sm g n) = A4 at *
    generalize rD (kp g u q4) (sm g n) = B4 at *
    generalize cS n (drB f g n P D) = L at *
    generalize rN (topV f g n P D) (sm g n * D * sm f n) = N2 at *
    generalize rD (topV f g n P D) (sm g n * D * sm f n) = D2 at *
    by_cases hN : N1 = N2
    · subst hN
      have hD : ¬ D1 = D2 := fun x => hG (IJ.out rfl x)
      have e1 : (D1 == D2) = false := by simpa using hD
      clear hG IJ
      go_enter Tryd.func4, Tryd.ntmps4
      go_wp2_with (first
        | (go_at_call 8; (with_reducible refine (HL.out _).mono ?_); rintro e W1 ⟨rfl, g1⟩; have G1 := Lib.hid (G0.out.trans g1); have BA := Lib.hid (BA.out.gr g1); have BB := Lib.hid (BB.out.gr g1); clear p0 p1 s0 s1; obtain ⟨p0, p1⟩ := BA.out; obtain ⟨s0, s1, _⟩ := BB.out; clear g1)
        | (go_at_call 17; (with_reducible refine (CV.out _ G1.out).mono ?_); rintro e v2 ⟨rfl, g2⟩; have G2 := Lib.hid (G1.out.trans g2); have BA := Lib.hid (BA.out.gr g2); have BB := Lib.hid (BB.out.gr g2); clear p0 p1 s0 s1; obtain ⟨p0, p1⟩ := BA.out; obtain ⟨s0, s1, _⟩ := BB.out; clear g2)
        | (go_at_call 18; (with_reducible refine (CI1.out _ G2.out).mono ?_); rintro e v3 ⟨rfl, g3⟩; have G3 := Lib.hid (G2.out.trans g3); have BA := Lib.hid (BA.out.gr g3); have BB := Lib.hid (BB.out.gr g3); clear p0 p1 s0 s1; obtain ⟨p0, p1⟩ := BA.out; obtain ⟨s0, s1, _⟩ := BB.out; clear g3)
        | (go_at_call 18; (with_reducible refine (CI2.out _ G3.out).mono ?_); rintro e v4 ⟨rfl, g4⟩; have G4 := Lib.hid (G3.out.trans g4); have BA := Lib.hid (BA.out.gr g4); have BB := Lib.hid (BB.out.gr g4); clear p0 p1 s0 s1; obtain ⟨p0, p1⟩ := BA.out; obtain ⟨s0, s1, _⟩ := BB.out; clear g4)
        | (go_at_call 14; (with_reducible refine (H14.out _ G4.out).mono ?_); rintro e v5 ⟨rfl, g5⟩; have G5 := Lib.hid (G4.out.trans g5); have BA := Lib.hid (BA.out.gr g5); have BB := Lib.hid (BB.out.gr g5); clear p0 p1 s0 s1; obtain ⟨p0, p1⟩ := BA.out; obtain ⟨s0, s1, _⟩ := BB.out; clear g5)
        | (go_at_call 10; (with_reducible refine (H10.out _ G5.out).mono ?_); rintro e v6 ⟨rfl, g6⟩; have gg := g6.alloc (.cells #[.int .i64 (N1), .int .i64 (D1)] 26); obtain ⟨V6, hV6⟩ : ∃ V6, v6.alloc (.cells #[.int .i64 (N1), .int .i64 (D1)] 26) = V6 := ⟨_, rfl⟩; rw [hV6] at gg; have G6 := Lib.hid (G5.out.trans gg); have BA := Lib.hid (BA.out.gr gg); have BB := Lib.hid (BB.out.gr gg); have R6 := Lib.hid (show Box2 V6 v6.heap.size (N1) (D1) by rw [← hV6]; exact Box2.new rfl); clear p0 p1 s0 s1; obtain ⟨p0, p1⟩ := BA.out; obtain ⟨s0, s1, _⟩ := BB.out; clear gg g6)
        | (go_at_call 12; (with_reducible refine (H12.out _ G6.out).mono ?_); rintro e v7 ⟨a7x, c7x, rfl, _, _, q7, g7⟩; have L7 := Lib.hid q7; have G7 := Lib.hid (G6.out.trans g7); have BA := Lib.hid (BA.out.gr g7); have BB := Lib.hid (BB.out.gr g7); have R6 := Lib.hid (R6.out.gr g7); clear p0 p1 s0 s1; obtain ⟨p0, p1⟩ := BA.out; obtain ⟨s0, s1, _⟩ := BB.out; clear g7 q7)
        | (go_at_call 19; (with_reducible refine (CP.out _).mono ?_); rintro e v8 ⟨rfl, g8⟩; have G8 := Lib.hid (G7.out.trans g8); have BA := Lib.hid (BA.out.gr g8); have BB := Lib.hid (BB.out.gr g8); have R6 := Lib.hid (R6.out.gr g8); have L7 := Lib.hid (L7.out.gr g8); clear p0 p1 s0 s1; obtain ⟨p0, p1⟩ := BA.out; obtain ⟨s0, s1, _⟩ := BB.out; clear g8)
        | (go_at_call 10; (with_reducible refine (D10.out _ G8.out _ _ L7.out).mono ?_); rintro e v9 ⟨rfl, g9⟩; have gg := g9.alloc (.cells #[.int .i64 (N1), .int .i64 (D2)] 26); obtain ⟨V9, hV9⟩ : ∃ V9, v9.alloc (.cells #[.int .i64 (N1), .int .i64 (D2)] 26) = V9 := ⟨_, rfl⟩; rw [hV9] at gg; have G9 := Lib.hid (G8.out.trans gg); have BA := Lib.hid (BA.out.gr gg); have BB := Lib.hid (BB.out.gr gg); have R9 := Lib.hid (show Box2 V9 v9.heap.size (N1) (D2) by rw [← hV9]; exact Box2.new rfl); have R6 := Lib.hid (R6.out.gr gg); have L7 := Lib.hid (L7.out.gr gg); clear p0 p1 s0 s1; obtain ⟨p0, p1⟩ := BA.out; obtain ⟨s0, s1, _⟩ := BB.out; clear gg g9)
        | (go_at_call 14; (with_reducible refine (D14.out _ G9.out _ _ L7.out).mono ?_); rintro e v10 ⟨rfl, g10⟩; have G10 := Lib.hid (G9.out.trans g10); have BA := Lib.hid (BA.out.gr g10); have BB := Lib.hid (BB.out.gr g10); have R6 := Lib.hid (R6.out.gr g10); have R9 := Lib.hid (R9.out.gr g10); (try clear xR6 yR6); obtain ⟨xR6, yR6, _⟩ := R6.out; (try clear xR9 yR9); obtain ⟨xR9, yR9, _⟩ := R9.out; clear p0 p1 s0 s1; obtain ⟨p0, p1⟩ := BA.out; obtain ⟨s0, s1, _⟩ := BB.out; clear g10)
        | (go_at_call 20; (with_reducible refine (K1.out _ G10.out).mono ?_); rintro e v11 ⟨rfl, g11⟩; have gg := (g11.alloc (.cells #[.int .i64 A1, .int .i64 B1] 26)).alloc (.cells #[.int .i64 A2, .int .i64 B2] 26); obtain ⟨V11, hV11⟩ : ∃ V11, (v11.alloc (.cells #[.int .i64 A1, .int .i64 B1] 26)).alloc (.cells #[.int .i64 A2, .int .i64 B2] 26) = V11 := ⟨_, rfl⟩; rw [hV11] at gg; have G11 := Lib.hid (G10.out.trans gg); have BA := Lib.hid (BA.out.gr gg); have BB := Lib.hid (BB.out.gr gg); have Y11 := Lib.hid (show Box2 V11 v11.heap.size A1 B1 by rw [← hV11]; exact (Box2.new rfl).gr ((Gr.refl _).alloc _)); have Z11 := Lib.hid (show Box2 V11 (v11.heap.size + 1) A2 B2 by rw [← hV11]; exact Box2.new (by simp)); (try clear xY11 yY11); obtain ⟨xY11, yY11, _⟩ := Y11.out; (try clear xZ11 yZ11); obtain ⟨xZ11, yZ11, _⟩ := Z11.out; clear p0 p1 s0 s1; obtain ⟨p0, p1⟩ := BA.out; obtain ⟨s0, s1, _⟩ := BB.out; clear gg g11)
        | (go_at_call 20; (with_reducible refine (K2.out _ G11.out).mono ?_); rintro e v12 ⟨rfl, g12⟩; have gg := (g12.alloc (.cells #[.int .i64 A3, .int .i64 B3] 26)).alloc (.cells #[.int .i64 A4, .int .i64 B4] 26); obtain ⟨V12, hV12⟩ : ∃ V12, (v12.alloc (.cells #[.int .i64 A3, .int .i64 B3] 26)).alloc (.cells #[.int .i64 A4, .int .i64 B4] 26) = V12 := ⟨_, rfl⟩; rw [hV12] at gg; have G12 := Lib.hid (G11.out.trans gg); have BA := Lib.hid (BA.out.gr gg); have BB := Lib.hid (BB.out.gr gg); have Y12 := Lib.hid (show Box2 V12 v12.heap.size A3 B3 by rw [← hV12]; exact (Box2.new rfl).gr ((Gr.refl _).alloc _)); have Z12 := Lib.hid (show Box2 V12 (v12.heap.size + 1) A4 B4 by rw [← hV12]; exact Box2.new (by simp)); have Y11 := Lib.hid (Y11.out.gr gg); have Z11 := Lib.hid (Z11.out.gr gg); (try clear xY11 yY11); obtain ⟨xY11, yY11, _⟩ := Y11.out; (try clear xZ11 yZ11); obtain ⟨xZ11, yZ11, _⟩ := Z11.out; (try clear xY12 yY12); obtain ⟨xY12, yY12, _⟩ := Y12.out; (try clear xZ12 yZ12); obtain ⟨xZ12, yZ12, _⟩ := Z12.out; clear p0 p1 s0 s1; obtain ⟨p0, p1⟩ := BA.out; obtain ⟨s0, s1, _⟩ := BB.out; clear gg g12)
        | (go_at_call 9; refine (Awake_any _).mono ?_; rintro e w9 ⟨rfl, g9⟩))
      go_ret
      exact ⟨rfl, G12.out.trans g9⟩
    · have e1 : (N1 == N2) = false := by simpa using hN
      clear hG IJ
      go_enter Tryd.func4, Tryd.ntmps4
      go_wp2_with (first
        | (go_at_call 8; (with_reducible refine (HL.out _).mono ?_); rintro e W1 ⟨rfl, g1⟩; have G1 := Lib.hid (G0.out.trans g1); have BA := Lib.hid (BA.out.gr g1); have BB := Lib.hid (BB.out.gr g1); clear p0 p1 s0 s1; obtain ⟨p0, p1⟩ := BA.out; obtain ⟨s0, s1, _⟩ := BB.out; clear g1)
        | (go_at_call 17; (with_reducible refine (CV.out _ G1.out).mono ?_); rintro e v2 ⟨rfl, g2⟩; have G2 := Lib.hid (G1.out.trans g2); have BA := Lib.hid (BA.out.gr g2); have BB := Lib.hid (BB.out.gr g2); clear p0 p1 s0 s1; obtain ⟨p0, p1⟩ := BA.out; obtain ⟨s0, s1, _⟩ := BB.out; clear g2)
        | (go_at_call 18; (with_reducible refine (CI1.out _ G2.out).mono ?_); rintro e v3 ⟨rfl, g3⟩; have G3 := Lib.hid (G2.out.trans g3); have BA := Lib.hid (BA.out.gr g3); have BB := Lib.hid (BB.out.gr g3); clear p0 p1 s0 s1; obtain ⟨p0, p1⟩ := BA.out; obtain ⟨s0, s1, _⟩ := BB.out; clear g3)
        | (go_at_call 18; (with_reducible refine (CI2.out _ G3.out).mono ?_); rintro e v4 ⟨rfl, g4⟩; have G4 := Lib.hid (G3.out.trans g4); have BA := Lib.hid (BA.out.gr g4); have BB := Lib.hid (BB.out.gr g4); clear p0 p1 s0 s1; obtain ⟨p0, p1⟩ := BA.out; obtain ⟨s0, s1, _⟩ := BB.out; clear g4)
        | (go_at_call 14; (with_reducible refine (H14.out _ G4.out).mono ?_); rintro e v5 ⟨rfl, g5⟩; have G5 := Lib.hid (G4.out.trans g5); have BA := Lib.hid (BA.out.gr g5); have BB := Lib.hid (BB.out.gr g5); clear p0 p1 s0 s1; obtain ⟨p0, p1⟩ := BA.out; obtain ⟨s0, s1, _⟩ := BB.out; clear g5)
        | (go_at_call 10; (with_reducible refine (H10.out _ G5.out).mono ?_); rintro e v6 ⟨rfl, g6⟩; have gg := g6.alloc (.cells #[.int .i64 (N1), .int .i64 (D1)] 26); obtain ⟨V6, hV6⟩ : ∃ V6, v6.alloc (.cells #[.int .i64 (N1), .int .i64 (D1)] 26) = V6 := ⟨_, rfl⟩; rw [hV6] at gg; have G6 := Lib.hid (G5.out.trans gg); have BA := Lib.hid (BA.out.gr gg); have BB := Lib.hid (BB.out.gr gg); have R6 := Lib.hid (show Box2 V6 v6.heap.size (N1) (D1) by rw [← hV6]; exact Box2.new rfl); clear p0 p1 s0 s1; obtain ⟨p0, p1⟩ := BA.out; obtain ⟨s0, s1, _⟩ := BB.out; clear gg g6)
        | (go_at_call 12; (with_reducible refine (H12.out _ G6.out).mono ?_); rintro e v7 ⟨a7x, c7x, rfl, _, _, q7, g7⟩; have L7 := Lib.hid q7; have G7 := Lib.hid (G6.out.trans g7); have BA := Lib.hid (BA.out.gr g7); have BB := Lib.hid (BB.out.gr g7); have R6 := Lib.hid (R6.out.gr g7); clear p0 p1 s0 s1; obtain ⟨p0, p1⟩ := BA.out; obtain ⟨s0, s1, _⟩ := BB.out; clear g7 q7)
        | (go_at_call 19; (with_reducible refine (CP.out _).mono ?_); rintro e v8 ⟨rfl, g8⟩; have G8 := Lib.hid (G7.out.trans g8); have BA := Lib.hid (BA.out.gr g8); have BB := Lib.hid (BB.out.gr g8); have R6 := Lib.hid (R6.out.gr g8); have L7 := Lib.hid (L7.out.gr g8); clear p0 p1 s0 s1; obtain ⟨p0, p1⟩ := BA.out; obtain ⟨s0, s1, _⟩ := BB.out; clear g8)
        | (go_at_call 10; (with_reducible refine (D10.out _ G8.out _ _ L7.out).mono ?_); rintro e v9 ⟨rfl, g9⟩; have gg := g9.alloc (.cells #[.int .i64 (N2), .int .i64 (D2)] 26); obtain ⟨V9, hV9⟩ : ∃ V9, v9.alloc (.cells #[.int .i64 (N2), .int .i64 (D2)] 26) = V9 := ⟨_, rfl⟩; rw [hV9] at gg; have G9 := Lib.hid (G8.out.trans gg); have BA := Lib.hid (BA.out.gr gg); have BB := Lib.hid (BB.out.gr gg); have R9 := Lib.hid (show Box2 V9 v9.heap.size (N2) (D2) by rw [← hV9]; exact Box2.new rfl); have R6 := Lib.hid (R6.out.gr gg); have L7 := Lib.hid (L7.out.gr gg); clear p0 p1 s0 s1; obtain ⟨p0, p1⟩ := BA.out; obtain ⟨s0, s1, _⟩ := BB.out; clear gg g9)
        | (go_at_call 14; (with_reducible refine (D14.out _ G9.out _ _ L7.out).mono ?_); rintro e v10 ⟨rfl, g10⟩; have G10 := Lib.hid (G9.out.trans g10); have BA := Lib.hid (BA.out.gr g10); have BB := Lib.hid (BB.out.gr g10); have R6 := Lib.hid (R6.out.gr g10); have R9 := Lib.hid (R9.out.gr g10); (try clear xR6 yR6); obtain ⟨xR6, yR6, _⟩ := R6.out; (try clear xR9 yR9); obtain ⟨xR9, yR9, _⟩ := R9.out; clear p0 p1 s0 s1; obtain ⟨p0, p1⟩ := BA.out; obtain ⟨s0, s1, _⟩ := BB.out; clear g10)
        | (go_at_call 20; (with_reducible refine (K1.out _ G10.out).mono ?_); rintro e v11 ⟨rfl, g11⟩; have gg := (g11.alloc (.cells #[.int .i64 A1, .int .i64 B1] 26)).alloc (.cells #[.int .i64 A2, .int .i64 B2] 26); obtain ⟨V11, hV11⟩ : ∃ V11, (v11.alloc (.cells #[.int .i64 A1, .int .i64 B1] 26)).alloc (.cells #[.int .i64 A2, .int .i64 B2] 26) = V11 := ⟨_, rfl⟩; rw [hV11] at gg; have G11 := Lib.hid (G10.out.trans gg); have BA := Lib.hid (BA.out.gr gg); have BB := Lib.hid (BB.out.gr gg); have Y11 := Lib.hid (show Box2 V11 v11.heap.size A1 B1 by rw [← hV11]; exact (Box2.new rfl).gr ((Gr.refl _).alloc _)); have Z11 := Lib.hid (show Box2 V11 (v11.heap.size + 1) A2 B2 by rw [← hV11]; exact Box2.new (by simp)); (try clear xY11 yY11); obtain ⟨xY11, yY11, _⟩ := Y11.out; (try clear xZ11 yZ11); obtain ⟨xZ11, yZ11, _⟩ := Z11.out; clear p0 p1 s0 s1; obtain ⟨p0, p1⟩ := BA.out; obtain ⟨s0, s1, _⟩ := BB.out; clear gg g11)
        | (go_at_call 20; (with_reducible refine (K2.out _ G11.out).mono ?_); rintro e v12 ⟨rfl, g12⟩; have gg := (g12.alloc (.cells #[.int .i64 A3, .int .i64 B3] 26)).alloc (.cells #[.int .i64 A4, .int .i64 B4] 26); obtain ⟨V12, hV12⟩ : ∃ V12, (v12.alloc (.cells #[.int .i64 A3, .int .i64 B3] 26)).alloc (.cells #[.int .i64 A4, .int .i64 B4] 26) = V12 := ⟨_, rfl⟩; rw [hV12] at gg; have G12 := Lib.hid (G11.out.trans gg); have BA := Lib.hid (BA.out.gr gg); have BB := Lib.hid (BB.out.gr gg); have Y12 := Lib.hid (show Box2 V12 v12.heap.size A3 B3 by rw [← hV12]; exact (Box2.new rfl).gr ((Gr.refl _).alloc _)); have Z12 := Lib.hid (show Box2 V12 (v12.heap.size + 1) A4 B4 by rw [← hV12]; exact Box2.new (by simp)); have Y11 := Lib.hid (Y11.out.gr gg); have Z11 := Lib.hid (Z11.out.gr gg); (try clear xY11 yY11); obtain ⟨xY11, yY11, _⟩ := Y11.out; (try clear xZ11 yZ11); obtain ⟨xZ11, yZ11, _⟩ := Z11.out; (try clear xY12 yY12); obtain ⟨xY12, yY12, _⟩ := Y12.out; (try clear xZ12 yZ12); obtain ⟨xZ12, yZ12, _⟩ := Z12.out; clear p0 p1 s0 s1; obtain ⟨p0, p1⟩ := BA.out; obtain ⟨s0, s1, _⟩ := BB.out; clear gg g12)
        | (go_at_call 9; refine (Awake_any _).mono ?_; rintro e w9 ⟨rfl, g9⟩))
      go_ret
      exact ⟨rfl, G12.out.trans g9⟩

end Go.Proofs.YtohcnicadbpbbaaDoor
