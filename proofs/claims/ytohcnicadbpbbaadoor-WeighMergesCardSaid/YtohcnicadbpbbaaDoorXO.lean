/- The walk of WeighProofs: it returns true at all odds, cuts and prices. The walk of WeighMerges: it returns true at all odds, numbers and noises. -/
import Derived.Test.YtohcnicadbpbbaaDoorXQ
import Derived.Test.YtohcnicadbpbbaaDoorXN
namespace Go.Proofs.YtohcnicadbpbbaaDoor
open Go.RowKit Go.Firn

theorem nn_all2 {n : Nat} {f : Nat → Int} (V : VW n f) (hf : ∀ i, n ≤ i → f i = 0) (i : Nat) : 0 ≤ f i := by
  by_cases h : i < n
  · exact (V.ok i h).1
  · rw [hf i (by omega)]; exact Int.le_refl 0
theorem kp_all3 {n q : Nat} {f h : Nat → Int} (C : Cut n q h) (_V : VW n f) (hf : ∀ i, 0 ≤ f i) : 0 ≤ kp f h q ∧ kp f h q ≤ sm f n := by
  rw [C.kp]
  exact kS_bd hf _ n
theorem red_inj {n m d : Int} (hd : 0 < d) (h1 : rN n d = rN m d) (h2 : rD n d = rD m d) : n = m := by
  have a : ¬ n < m := fun h => by
    have := (red_lt hd hd).2 (Int.mul_lt_mul_of_pos_right h hd)
    rw [h1, h2] at this
    omega
  have b : ¬ m < n := fun h => by
    have := (red_lt hd hd).2 (Int.mul_lt_mul_of_pos_right h hd)
    rw [h1, h2] at this
    omega
  omega
/-- A cut that is proved: no cut with as little noise has more signal. -/
theorem proved_best {f g h u : Nat → Int} {n q q4 : Nat} {P D : Int} (V : VO n n f g) (hp : Prc P D) (C4 : Cut n q4 u) (hG : gnV f g n P D h q = topV f g n P D) (hn : kp f u q4 ≤ kp f h q) : kp g u q4 ≤ kp g h q := by
  have t := gnV_top (f := f) (g := g) (P := P) (D := D) C4
  rw [← hG] at t
  unfold gnV at t
  have s1 := V.noise.sum
  have s2 := V.signal.sum
  have hD : 0 < D := by have := hp.1; omega
  have m1 : P * kp f u q4 * sm g n ≤ P * kp f h q * sm g n := Int.mul_le_mul_of_nonneg_right (Int.mul_le_mul_of_nonneg_left hn hp.2.1) (by omega)
  have m2 : kp g u q4 * D * sm f n ≤ kp g h q * D * sm f n := by omega
  have m3 : kp g u q4 * D ≤ kp g h q * D := Int.le_of_mul_le_mul_right m2 (by omega)
  exact Int.le_of_mul_le_mul_right m3 hD

set_option maxHeartbeats 16000000 in
set_option maxRecDepth 100000 in
theorem proofs_walk (a b : Option Addr) (n c m d : Nat) (f g : Nat → Int) (a3 : Option Addr) (q c3 : Nat) (h : Nat → Int) (a4 : Option Addr) (q4 c4 : Nat) (u : Nat → Int) (P D : Int) (w : World) (_hn : n ≤ 9223372036854775807) (_hm : m ≤ 9223372036854775807) (_nc : n ≤ c) (_cl : c ≤ maxLen) (_md : m ≤ d) (_dl : d ≤ maxLen) (_fz : ∀ i, n ≤ i → f i = 0) (_gz : ∀ i, m ≤ i → g i = 0) (hr : RdI w a n f) (hs : RdI w b m g) (_hq3 : q ≤ 9223372036854775807) (_qc3 : q ≤ c3) (_cl3 : c3 ≤ maxLen) (ht3 : RdI w a3 q h) (_hq4 : q4 ≤ 9223372036854775807) (_qc4 : q4 ≤ c4) (_cl4 : c4 ≤ maxLen) (ht4 : RdI w a4 q4 u) (_wP : (Lit.int .i64 P).wf = true) (_wD : (Lit.int .i64 D).wf = true) (hT : Tab w) :
    Calls Tryd.prog 4 #[.agg #[.slice a n c, .slice b m d], .slice a3 q c3, .slice a4 q4 c4, .agg #[.int .i64 P, .int .i64 D]] w (RetB true w) := by
  obtain ⟨X0, hX0⟩ : ∃ X0, (w.alloc (.cells #[.slice a n c, .slice b m d] 24)).alloc (.cells #[.int .i64 P, .int .i64 D] 26) = X0 := ⟨_, rfl⟩
  have G0 := Lib.hid (show Gr w X0 by rw [← hX0]; exact ((Gr.refl w).alloc _).alloc _)
  have BA := Lib.hid (show BoxO X0 w.heap.size (.slice a n c) (.slice b m d) by rw [← hX0]; exact (BoxO.new rfl).gr ((Gr.refl _).alloc _))
  have BB := Lib.hid (show Box2 X0 (w.heap.size + 1) P D by rw [← hX0]; exact Box2.new (by simp))
  obtain ⟨p0, p1⟩ := BA.out
  obtain ⟨s0, s1, _⟩ := BB.out
  have HL := Lib.hid (fun w1 => Long_any a b n c m d w1)
  clear _hn _hm _nc _cl _md _dl _qc3 _cl3 _wP _wD _hq3 _hq4 _qc4 _cl4
  by_cases l0 : lgO n m = true
  · rw [l0] at HL
    clear hr hs l0 ht3 ht4 hT _fz _gz
    go_enter Tryd.func4, Tryd.ntmps4
    go_wp2_with (first
      | (go_at_call 8; (with_reducible refine (HL.out _).mono ?_); rintro e W1 ⟨rfl, g1⟩; have G1 := Lib.hid (G0.out.trans g1); have BA := Lib.hid (BA.out.gr g1); have BB := Lib.hid (BB.out.gr g1); clear p0 p1 s0 s1; obtain ⟨p0, p1⟩ := BA.out; obtain ⟨s0, s1, _⟩ := BB.out; clear g1)
      | (go_at_call 9; refine (Awake_any _).mono ?_; rintro e w9 ⟨rfl, g9⟩))
    go_ret
    exact ⟨rfl, G1.out.trans g9⟩
  rw [Bool.not_eq_true] at l0
  rw [l0] at HL
  have l60 := lgO_false.1 l0
  by_cases hq : 60 < q
  · have i1 : (60 : Int) < (q : Int) := by omega
    have i2 : (q : Int) > 60 := by omega
    clear hr hs l0 ht3 ht4 hT _fz _gz l60
    go_enter Tryd.func4, Tryd.ntmps4
    go_wp2_with (first
      | (go_at_call 8; (with_reducible refine (HL.out _).mono ?_); rintro e W1 ⟨rfl, g1⟩; have G1 := Lib.hid (G0.out.trans g1); have BA := Lib.hid (BA.out.gr g1); have BB := Lib.hid (BB.out.gr g1); clear p0 p1 s0 s1; obtain ⟨p0, p1⟩ := BA.out; obtain ⟨s0, s1, _⟩ := BB.out; clear g1)
      | (go_at_call 9; refine (Awake_any _).mono ?_; rintro e w9 ⟨rfl, g9⟩))
    go_ret
    exact ⟨rfl, G1.out.trans g9⟩
  have i1 : ¬ (60 : Int) < (q : Int) := by omega
  have i2 : ¬ (q : Int) > 60 := by omega
  by_cases hq4 : 60 < q4
  · have i3 : (60 : Int) < (q4 : Int) := by omega
    have i4 : (q4 : Int) > 60 := by omega
    clear hr hs l0 ht3 ht4 hT _fz _gz l60 hq
    go_enter Tryd.func4, Tryd.ntmps4
    go_wp2_with (first
      | (go_at_call 8; (with_reducible refine (HL.out _).mono ?_); rintro e W1 ⟨rfl, g1⟩; have G1 := Lib.hid (G0.out.trans g1); have BA := Lib.hid (BA.out.gr g1); have BB := Lib.hid (BB.out.gr g1); clear p0 p1 s0 s1; obtain ⟨p0, p1⟩ := BA.out; obtain ⟨s0, s1, _⟩ := BB.out; clear g1)
      | (go_at_call 9; refine (Awake_any _).mono ?_; rintro e w9 ⟨rfl, g9⟩))
    go_ret
    exact ⟨rfl, G1.out.trans g9⟩
  have i3 : ¬ (60 : Int) < (q4 : Int) := by omega
  have i4 : ¬ (q4 : Int) > 60 := by omega
  have CV := Lib.hid (fun w1 (k : Gr w w1) => refValid_any a b n c m d f g w1 (by omega) (by omega) (hr.gr k) (hs.gr k))
  cases hv : vO n m f g with
  | false =>
    rw [hv] at CV
    clear hr hs l0 ht3 ht4 hT _fz _gz l60 hq hq4 hv
    go_enter Tryd.func4, Tryd.ntmps4
    go_wp2_with (first
      | (go_at_call 8; (with_reducible refine (HL.out _).mono ?_); rintro e W1 ⟨rfl, g1⟩; have G1 := Lib.hid (G0.out.trans g1); have BA := Lib.hid (BA.out.gr g1); have BB := Lib.hid (BB.out.gr g1); clear p0 p1 s0 s1; obtain ⟨p0, p1⟩ := BA.out; obtain ⟨s0, s1, _⟩ := BB.out; clear g1)
      | (go_at_call 17; (with_reducible refine (CV.out _ G1.out).mono ?_); rintro e v2 ⟨rfl, g2⟩; have G2 := Lib.hid (G1.out.trans g2); have BA := Lib.hid (BA.out.gr g2); have BB := Lib.hid (BB.out.gr g2); clear p0 p1 s0 s1; obtain ⟨p0, p1⟩ := BA.out; obtain ⟨s0, s1, _⟩ := BB.out; clear g2)
      | (go_at_call 9; refine (Awake_any _).mono ?_; rintro e w9 ⟨rfl, g9⟩))
    go_ret
    exact ⟨rfl, G2.out.trans g9⟩
  | true =>
  rw [hv] at CV
  have CI1 := Lib.hid (fun w1 (k : Gr w w1) => refIsCut_any a a3 n c q c3 (.slice b m d) h w1 (by omega) (ht3.gr k))
  have CI2 := Lib.hid (fun w1 (k : Gr w w1) => refIsCut_any a a4 n c q4 c4 (.slice b m d) u w1 (by omega) (ht4.gr k))
  cases hc : cutB n q h with
  | false =>
    rw [hc] at CI1
    clear hr hs l0 ht3 ht4 hT _fz _gz l60 hq hq4 hv hc
    go_enter Tryd.func4, Tryd.ntmps4
    go_wp2_with (first
      | (go_at_call 8; (with_reducible refine (HL.out _).mono ?_); rintro e W1 ⟨rfl, g1⟩; have G1 := Lib.hid (G0.out.trans g1); have BA := Lib.hid (BA.out.gr g1); have BB := Lib.hid (BB.out.gr g1); clear p0 p1 s0 s1; obtain ⟨p0, p1⟩ := BA.out; obtain ⟨s0, s1, _⟩ := BB.out; clear g1)
      | (go_at_call 17; (with_reducible refine (CV.out _ G1.out).mono ?_); rintro e v2 ⟨rfl, g2⟩; have G2 := Lib.hid (G1.out.trans g2); have BA := Lib.hid (BA.out.gr g2); have BB := Lib.hid (BB.out.gr g2); clear p0 p1 s0 s1; obtain ⟨p0, p1⟩ := BA.out; obtain ⟨s0, s1, _⟩ := BB.out; clear g2)
      | (go_at_call 18; (with_reducible refine (CI1.out _ G2.out).mono ?_); rintro e v3 ⟨rfl, g3⟩; have G3 := Lib.hid (G2.out.trans g3); have BA := Lib.hid (BA.out.gr g3); have BB := Lib.hid (BB.out.gr g3); clear p0 p1 s0 s1; obtain ⟨p0, p1⟩ := BA.out; obtain ⟨s0, s1, _⟩ := BB.out; clear g3)
      | (go_at_call 9; refine (Awake_any _).mono ?_; rintro e w9 ⟨rfl, g9⟩))
    go_ret
    exact ⟨rfl, G3.out.trans g9⟩
  | true =>
  rw [hc] at CI1
  cases hc4 : cutB n q4 u with
  | false =>
    rw [hc4] at CI2
    clear hr hs l0 ht3 ht4 hT _fz _gz l60 hq hq4 hv hc hc4
    go_enter Tryd.func4, Tryd.ntmps4
    go_wp2_with (first
      | (go_at_call 8; (with_reducible refine (HL.out _).mono ?_); rintro e W1 ⟨rfl, g1⟩; have G1 := Lib.hid (G0.out.trans g1); have BA := Lib.hid (BA.out.gr g1); have BB := Lib.hid (BB.out.gr g1); clear p0 p1 s0 s1; obtain ⟨p0, p1⟩ := BA.out; obtain ⟨s0, s1, _⟩ := BB.out; clear g1)
      | (go_at_call 17; (with_reducible refine (CV.out _ G1.out).mono ?_); rintro e v2 ⟨rfl, g2⟩; have G2 := Lib.hid (G1.out.trans g2); have BA := Lib.hid (BA.out.gr g2); have BB := Lib.hid (BB.out.gr g2); clear p0 p1 s0 s1; obtain ⟨p0, p1⟩ := BA.out; obtain ⟨s0, s1, _⟩ := BB.out; clear g2)
      | (go_at_call 18; (with_reducible refine (CI1.out _ G2.out).mono ?_); rintro e v3 ⟨rfl, g3⟩; have G3 := Lib.hid (G2.out.trans g3); have BA := Lib.hid (BA.out.gr g3); have BB := Lib.hid (BB.out.gr g3); clear p0 p1 s0 s1; obtain ⟨p0, p1⟩ := BA.out; obtain ⟨s0, s1, _⟩ := BB.out; clear g3)
      | (go_at_call 18; (with_reducible refine (CI2.out _ G3.out).mono ?_); rintro e v4 ⟨rfl, g4⟩; have G4 := Lib.hid (G3.out.trans g4); have BA := Lib.hid (BA.out.gr g4); have BB := Lib.hid (BB.out.gr g4); clear p0 p1 s0 s1; obtain ⟨p0, p1⟩ := BA.out; obtain ⟨s0, s1, _⟩ := BB.out; clear g4)
      | (go_at_call 9; refine (Awake_any _).mono ?_; rintro e w9 ⟨rfl, g9⟩))
    go_ret
    exact ⟨rfl, G4.out.trans g9⟩
  | true =>
  rw [hc4] at CI2
  have V := vO_iff.1 hv
  obtain rfl := V.same
  have C3 := cutB_iff.1 hc
  have C4 := cutB_iff.1 hc4
  have CP := Lib.hid (fun w1 => IsPrice_any P D w1)
  cases hp : prB P D with
  | false =>
    rw [hp] at CP
    have E1 : prE n n f g q h P D = 2 := prE_price hv hc hp
    have E2 : deE n n f g P D = 2 := prE_price hv (cutB_iff.2 (cut_nil n _)) hp
    have H14 := Lib.hid (show ∀ w1, Gr w w1 → Calls Tryd.prog 14 #[.agg #[.slice a n c, .slice b n d], .slice a3 q c3, .agg #[.int .i64 P, .int .i64 D]] w1 (RetBE false 2 w1) from fun w1 k => by have t := Proves_err a b a3 n c n d q c3 f g h P D w1 (by omega) (by omega) (by omega) (hr.gr k) (hs.gr k) (ht3.gr k) (by omega); rwa [E1] at t)
    have H10 := Lib.hid (show ∀ w1, Gr w w1 → Calls Tryd.prog 10 #[.agg #[.slice a n c, .slice b n d], .slice a3 q c3, .agg #[.int .i64 P, .int .i64 D]] w1 (RetRE 0 0 2 w1) from fun w1 k => by have t := Gain_err a b a3 n c n d q c3 f g h P D w1 (by omega) (by omega) (by omega) (hr.gr k) (hs.gr k) (ht3.gr k) (by omega); rwa [E1] at t)
    obtain ⟨X, Y, H10⟩ : ∃ X Y : Int, Hid (∀ w1, Gr w w1 → Calls Tryd.prog 10 #[.agg #[.slice a n c, .slice b n d], .slice a3 q c3, .agg #[.int .i64 P, .int .i64 D]] w1 (RetRE X Y 2 w1)) := ⟨0, 0, H10⟩
    have H12 := Lib.hid (show ∀ w1, Gr w w1 → Calls Tryd.prog 12 #[.agg #[.slice a n c, .slice b n d], .agg #[.int .i64 P, .int .i64 D]] w1 (RetIs 0 (fun _ => 0) 2 w1) from fun w1 k => by have t := Dearest_err a b n c n d f g P D w1 (by omega) (by omega) (hr.gr k) (hs.gr k) (by omega); rwa [E2] at t)
    clear hr hs l0 ht3 ht4 hT _fz _gz l60 hq hq4 hv hc hc4 hp V C3 C4 E1 E2
    go_enter Tryd.func4, Tryd.ntmps4
    go_wp2_with (first
      | (go_at_call 8; (with_reducible refine (HL.out _).mono ?_); rintro e W1 ⟨rfl, g1⟩; have G1 := Lib.hid (G0.out.trans g1); have BA := Lib.hid (BA.out.gr g1); have BB := Lib.hid (BB.out.gr g1); clear p0 p1 s0 s1; obtain ⟨p0, p1⟩ := BA.out; obtain ⟨s0, s1, _⟩ := BB.out; clear g1)
      | (go_at_call 17; (with_reducible refine (CV.out _ G1.out).mono ?_); rintro e v2 ⟨rfl, g2⟩; have G2 := Lib.hid (G1.out.trans g2); have BA := Lib.hid (BA.out.gr g2); have BB := Lib.hid (BB.out.gr g2); clear p0 p1 s0 s1; obtain ⟨p0, p1⟩ := BA.out; obtain ⟨s0, s1, _⟩ := BB.out; clear g2)
      | (go_at_call 18; (with_reducible refine (CI1.out _ G2.out).mono ?_); rintro e v3 ⟨rfl, g3⟩; have G3 := Lib.hid (G2.out.trans g3); have BA := Lib.hid (BA.out.gr g3); have BB := Lib.hid (BB.out.gr g3); clear p0 p1 s0 s1; obtain ⟨p0, p1⟩ := BA.out; obtain ⟨s0, s1, _⟩ := BB.out; clear g3)
      | (go_at_call 18; (with_reducible refine (CI2.out _ G3.out).mono ?_); rintro e v4 ⟨rfl, g4⟩; have G4 := Lib.hid (G3.out.trans g4); have BA := Lib.hid (BA.out.gr g4); have BB := Lib.hid (BB.out.gr g4); clear p0 p1 s0 s1; obtain ⟨p0, p1⟩ := BA.out; obtain ⟨s0, s1, _⟩ := BB.out; clear g4)
      | (go_at_call 14; (with_reducible refine (H14.out _ G4.out).mono ?_); rintro e v5 ⟨rfl, g5⟩; have G5 := Lib.hid (G4.out.trans g5); have BA := Lib.hid (BA.out.gr g5); have BB := Lib.hid (BB.out.gr g5); clear p0 p1 s0 s1; obtain ⟨p0, p1⟩ := BA.out; obtain ⟨s0, s1, _⟩ := BB.out; clear g5)
      | (go_at_call 10; (with_reducible refine (H10.out _ G5.out).mono ?_); rintro e v6 ⟨rfl, g6⟩; have gg := g6.alloc (.cells #[.int .i64 (X), .int .i64 (Y)] 26); obtain ⟨V6, hV6⟩ : ∃ V6, v6.alloc (.cells #[.int .i64 (X), .int .i64 (Y)] 26) = V6 := ⟨_, rfl⟩; rw [hV6] at gg; have G6 := Lib.hid (G5.out.trans gg); have BA := Lib.hid (BA.out.gr gg); have BB := Lib.hid (BB.out.gr gg); have R6 := Lib.hid (show Box2 V6 v6.heap.size (X) (Y) by rw [← hV6]; exact Box2.new rfl); clear p0 p1 s0 s1; obtain ⟨p0, p1⟩ := BA.out; obtain ⟨s0, s1, _⟩ := BB.out; clear gg g6)
      | (go_at_call 12; (with_reducible refine (H12.out _ G6.out).mono ?_); rintro e v7 ⟨a7x, c7x, rfl, _, _, q7, g7⟩; have L7 := Lib.hid q7; have G7 := Lib.hid (G6.out.trans g7); have BA := Lib.hid (BA.out.gr g7); have BB := Lib.hid (BB.out.gr g7); clear p0 p1 s0 s1; obtain ⟨p0, p1⟩ := BA.out; obtain ⟨s0, s1, _⟩ := BB.out; clear g7 q7)
      | (go_at_call 19; (with_reducible refine (CP.out _).mono ?_); rintro e v8 ⟨rfl, g8⟩; have G8 := Lib.hid (G7.out.trans g8); have BA := Lib.hid (BA.out.gr g8); have BB := Lib.hid (BB.out.gr g8); clear p0 p1 s0 s1; obtain ⟨p0, p1⟩ := BA.out; obtain ⟨s0, s1, _⟩ := BB.out; clear g8)
      | (go_at_call 9; refine (Awake_any _).mono ?_; rintro e w9 ⟨rfl, g9⟩))
    go_ret
    exact ⟨rfl, G8.out.trans g9⟩
  | true =>
  rw [hp] at CP
  have R := prB_iff.1 hp
  have F := nn_all2 V.noise _fz
  have Gn := nn_all2 V.signal _gz
  have n10 := V.noise.few
  have H14 := Lib.hid (fun w1 (k : Gr w w1) => Proves_ok a b a3 n c d q c3 f g h P D w1 (hr.gr k) (hs.gr k) (ht3.gr k) V C3 R (hT.gr k))
  have H10 := Lib.hid (fun w1 (k : Gr w w1) => Gain_ok a b a3 n c d q c3 f g h P D w1 (hr.gr k) (hs.gr k) (ht3.gr k) V C3 R)
  have H12 := Lib.hid (fun w1 (k : Gr w w1) => Dearest_ok a b n c d f g P D w1 (hr.gr k) (hs.gr k) V R (hT.gr k))
  have D10 := Lib.hid (show ∀ w1, Gr w w1 → ∀ av cv, RdI w1 av (cS n (drB f g n P D)).length (nf (cS n (drB f g n P D))) → Calls Tryd.prog 10 #[.agg #[.slice a n c, .slice b n d], .slice av (cS n (drB f g n P D)).length cv, .agg #[.int .i64 P, .int .i64 D]] w1 (RetRE (rN (topV f g n P D) (sm g n * D * sm f n)) (rD (topV f g n P D) (sm g n * D * sm f n)) 0 w1) from fun w1 k av cv hx => by
    have t := Gain_ok a b av n c d _ cv f g _ P D w1 (hr.gr k) (hs.gr k) hx V (cS_cut n _) R
    rwa [gnV_onL] at t)
  have D14 := Lib.hid (show ∀ w1, Gr w w1 → ∀ av cv, RdI w1 av (cS n (drB f g n P D)).length (nf (cS n (drB f g n P D))) → Calls Tryd.prog 14 #[.agg #[.slice a n c, .slice b n d], .slice av (cS n (drB f g n P D)).length cv, .agg #[.int .i64 P, .int .i64 D]] w1 (RetBE true 0 w1) from fun w1 k av cv hx => by
    have t := Proves_ok a b av n c d _ cv f g _ P D w1 (hr.gr k) (hs.gr k) hx V (cS_cut n _) R (hT.gr k)
    rwa [gnV_onL, show (gS f g n P D (drB f g n P D) == topV f g n P D) = true from beq_self_eq_true _] at t)
  have K1 := Lib.hid (fun w1 (k : Gr w w1) => kept_yes a b a3 n c d q c3 f g h w1 (hr.gr k) (hs.gr k) (ht3.gr k) F Gn V C3)
  have K2 := Lib.hid (fun w1 (k : Gr w w1) => kept_yes a b a4 n c d q4 c4 f g u w1 (hr.gr k) (hs.gr k) (ht4.gr k) F Gn V C4)
  have sf := V.noise.sum
  have sg := V.signal.sum
  have bf := sm_le10 V.noise
  have bg := sm_le10 V.signal
  have kf3 := kp_all3 C3 V.noise F
  have kg3 := kp_all3 C3 V.signal Gn
  have kf4 := kp_all3 C4 V.noise F
  have kg4 := kp_all3 C4 V.signal Gn
  have SA := Lib.hid (sml_red sf.1 (by omega) kf3.1 kf3.2)
  have SB := Lib.hid (sml_red sg.1 (by omega) kg3.1 kg3.2)
  have SC := Lib.hid (sml_red sf.1 (by omega) kf4.1 kf4.2)
  have SD := Lib.hid (sml_red sg.1 (by omega) kg4.1 kg4.2)
  have LT := Lib.hid (show (rN (kp f h q) (sm f n) * rD (kp f u q4) (sm f n) < rN (kp f u q4) (sm f n) * rD (kp f h q) (sm f n)) ∨ (¬ (rN (kp f h q) (sm f n) * rD (kp f u q4) (sm f n) < rN (kp f u q4) (sm f n) * rD (kp f h q) (sm f n)) ∧ (gnV f g n P D h q = topV f g n P D → ¬ (rN (kp g h q) (sm g n) * rD (kp g u q4) (sm g n) < rN (kp g u q4) (sm g n) * rD (kp g h q) (sm g n)))) from by
    by_cases t : kp f h q * sm f n < kp f u q4 * sm f n
    · exact .inl ((red_lt sf.1 sf.1).2 t)
    · refine .inr ⟨fun x => t ((red_lt sf.1 sf.1).1 x), fun hG x => ?_⟩
      have y := (red_lt sg.1 sg.1).1 x
      have z := proved_best V R C4 hG (Int.le_of_mul_le_mul_right (by omega : kp f u q4 * sm f n ≤ kp f h q * sm f n) sf.1)
      have := Int.mul_le_mul_of_nonneg_right z (by omega : 0 ≤ sm g n)
      omega)
  have IJ := Lib.hid (fun h1 h2 => red_inj (n := gnV f g n P D h q) (m := topV f g n P D) (gnV_sz V C3 R).2.2.1 h1 h2)
  by_cases hG : gnV f g n P D h q = topV f g n P D
  · have H14 := Lib.hid (show ∀ w1, Gr w w1 → Calls Tryd.prog 14 #[.agg #[.slice a n c, .slice b n d], .slice a3 q c3, .agg #[.int .i64 P, .int .i64 D]] w1 (RetBE true 0 w1) from fun w1 k => by
      have t := H14.out w1 k
      rwa [show (gnV f g n P D h q == topV f g n P D) = true from by simp [hG]] at t)
    rw [← hG] at D10
    have LT := Lib.hid (LT.out.imp id fun x => And.intro x.1 (x.2 hG))
    clear IJ
    clear hr hs l0 ht3 ht4 hT _fz _gz l60 hq hq4 hv hc hc4 hG hp V C3 C4 R F Gn sf sg bf bg kf3 kg3 kf4 kg4
    generalize rN (gnV f g n P D h q) (sm g n * D * sm f n) = N1 at *
    generalize rD (gnV f g n P D h q) (sm g n * D * sm f n) = D1 at *
    generalize rN (kp f h q) (sm f n) = A1 at *
    generalize rD (kp f h q) (sm f n) = B1 at *
    generalize rN (kp g h q) (sm g n) = A2 at *
    generalize rD (kp g h q) (sm g n) = B2 at *
    generalize rN (kp f u q4) (sm f n) = A3 at *
    generalize rD (kp f u q4) (sm f n) = B3 at *
    generalize rN (kp g u q4) (sm g n) = A4 at *
    generalize rD (kp g u q4) (sm g n) = B4 at *
    generalize cS n (drB f g n P D) = L at *
    rcases LT.out with t | ⟨t, t2⟩
    · have M1 := Lib.hid (fun w1 => less_yes A1 B1 A3 B3 w1 SA.out SC.out t)
      clear t LT SA SB SC SD
      go_enter Tryd.func4, Tryd.ntmps4
      go_wp2_with (first
        | (go_at_call 8; (with_reducible refine (HL.out _).mono ?_); rintro e W1 ⟨rfl, g1⟩; have G1 := Lib.hid (G0.out.trans g1); have BA := Lib.hid (BA.out.gr g1); have BB := Lib.hid (BB.out.gr g1); clear p0 p1 s0 s1; obtain ⟨p0, p1⟩ := BA.out; obtain ⟨s0, s1, _⟩ := BB.out; clear g1)
        | (go_at_call 17; (with_reducible refine (CV.out _ G1.out).mono ?_); rintro e v2 ⟨rfl, g2⟩; have G2 := Lib.hid (G1.out.trans g2); have BA := Lib.hid (BA.out.gr g2); have BB := Lib.hid (BB.out.gr g2); clear p0 p1 s0 s1; obtain ⟨p0, p1⟩ := BA.out; obtain ⟨s0, s1, _⟩ := BB.out; clear g2)
        | (go_at_call 18; (with_reducible refine (CI1.out _ G2.out).mono ?_); rintro e v3 ⟨rfl, g3⟩; have G3 := Lib.hid (G2.out.trans g3); have BA := Lib.hid (BA.out.gr g3); have BB := Lib.hid (BB.out.gr g3); clear p0 p1 s0 s1; obtain ⟨p0, p1⟩ := BA.out; obtain ⟨s0, s1, _⟩ := BB.out; clear g3)
        | (go_at_call 18; (with_reducible refine (CI2.out _ G3.out).mono ?_); rintro e v4 ⟨rfl, g4⟩; have G4 := Lib.hid (G3.out.trans g4); have BA := Lib.hid (BA.out.gr g4); have BB := Lib.hid (BB.out.gr g4); clear p0 p1 s0 s1; obtain ⟨p0, p1⟩ := BA.out; obtain ⟨s0, s1, _⟩ := BB.out; clear g4)
        | (go_at_call 14; (with_reducible refine (H14.out _ G4.out).mono ?_); rintro e v5 ⟨rfl, g5⟩; have G5 := Lib.hid (G4.out.trans g5); have BA := Lib.hid (BA.out.gr g5); have BB := Lib.hid (BB.out.gr g5); clear p0 p1 s0 s1; obtain ⟨p0, p1⟩ := BA.out; obtain ⟨s0, s1, _⟩ := BB.out; clear g5)
        | (go_at_call 10; (with_reducible refine (H10.out _ G5.out).mono ?_); rintro e v6 ⟨rfl, g6⟩; have gg := g6.alloc (.cells #[.int .i64 (N1), .int .i64 (D1)] 26); obtain ⟨V6, hV6⟩ : ∃ V6, v6.alloc (.cells #[.int .i64 (N1), .int .i64 (D1)] 26) = V6 := ⟨_, rfl⟩; rw [hV6] at gg; have G6 := Lib.hid (G5.out.trans gg); have BA := Lib.hid (BA.out.gr gg); have BB := Lib.hid (BB.out.gr gg); have R6 := Lib.hid (show Box2 V6 v6.heap.size (N1) (D1) by rw [← hV6]; exact Box2.new rfl); clear p0 p1 s0 s1; obtain ⟨p0, p1⟩ := BA.out; obtain ⟨s0, s1, _⟩ := BB.out; clear gg g6)
        | (go_at_call 12; (with_reducible refine (H12.out _ G6.out).mono ?_); rintro e v7 ⟨a7x, c7x, rfl, _, _, q7, g7⟩; have L7 := Lib.hid q7; have G7 := Lib.hid (G6.out.trans g7); have BA := Lib.hid (BA.out.gr g7); have BB := Lib.hid (BB.out.gr g7); have R6 := Lib.hid (R6.out.gr g7); clear p0 p1 s0 s1; obtain ⟨p0, p1⟩ := BA.out; obtain ⟨s0, s1, _⟩ := BB.out; clear g7 q7)
        | (go_at_call 19; (with_reducible refine (CP.out _).mono ?_); rintro e v8 ⟨rfl, g8⟩; have G8 := Lib.hid (G7.out.trans g8); have BA := Lib.hid (BA.out.gr g8); have BB := Lib.hid (BB.out.gr g8); have R6 := Lib.hid (R6.out.gr g8); have L7 := Lib.hid (L7.out.gr g8); clear p0 p1 s0 s1; obtain ⟨p0, p1⟩ := BA.out; obtain ⟨s0, s1, _⟩ := BB.out; clear g8)
        | (go_at_call 10; (with_reducible refine (D10.out _ G8.out _ _ L7.out).mono ?_); rintro e v9 ⟨rfl, g9⟩; have gg := g9.alloc (.cells #[.int .i64 (N1), .int .i64 (D1)] 26); obtain ⟨V9, hV9⟩ : ∃ V9, v9.alloc (.cells #[.int .i64 (N1), .int .i64 (D1)] 26) = V9 := ⟨_, rfl⟩; rw [hV9] at gg; have G9 := Lib.hid (G8.out.trans gg); have BA := Lib.hid (BA.out.gr gg); have BB := Lib.hid (BB.out.gr gg); have R9 := Lib.hid (show Box2 V9 v9.heap.size (N1) (D1) by rw [← hV9]; exact Box2.new rfl); have R6 := Lib.hid (R6.out.gr gg); have L7 := Lib.hid (L7.out.gr gg); clear p0 p1 s0 s1; obtain ⟨p0, p1⟩ := BA.out; obtain ⟨s0, s1, _⟩ := BB.out; clear gg g9)
        | (go_at_call 14; (with_reducible refine (D14.out _ G9.out _ _ L7.out).mono ?_); rintro e v10 ⟨rfl, g10⟩; have G10 := Lib.hid (G9.out.trans g10); have BA := Lib.hid (BA.out.gr g10); have BB := Lib.hid (BB.out.gr g10); have R6 := Lib.hid (R6.out.gr g10); have R9 := Lib.hid (R9.out.gr g10); (try clear xR6 yR6); obtain ⟨xR6, yR6, _⟩ := R6.out; (try clear xR9 yR9); obtain ⟨xR9, yR9, _⟩ := R9.out; clear p0 p1 s0 s1; obtain ⟨p0, p1⟩ := BA.out; obtain ⟨s0, s1, _⟩ := BB.out; clear g10)
        | (go_at_call 20; (with_reducible refine (K1.out _ G10.out).mono ?_); rintro e v11 ⟨rfl, g11⟩; have gg := (g11.alloc (.cells #[.int .i64 A1, .int .i64 B1] 26)).alloc (.cells #[.int .i64 A2, .int .i64 B2] 26); obtain ⟨V11, hV11⟩ : ∃ V11, (v11.alloc (.cells #[.int .i64 A1, .int .i64 B1] 26)).alloc (.cells #[.int .i64 A2, .int .i64 B2] 26) = V11 := ⟨_, rfl⟩; rw [hV11] at gg; have G11 := Lib.hid (G10.out.trans gg); have BA := Lib.hid (BA.out.gr gg); have BB := Lib.hid (BB.out.gr gg); have Y11 := Lib.hid (show Box2 V11 v11.heap.size A1 B1 by rw [← hV11]; exact (Box2.new rfl).gr ((Gr.refl _).alloc _)); have Z11 := Lib.hid (show Box2 V11 (v11.heap.size + 1) A2 B2 by rw [← hV11]; exact Box2.new (by simp)); (try clear xY11 yY11); obtain ⟨xY11, yY11, _⟩ := Y11.out; (try clear xZ11 yZ11); obtain ⟨xZ11, yZ11, _⟩ := Z11.out; clear p0 p1 s0 s1; obtain ⟨p0, p1⟩ := BA.out; obtain ⟨s0, s1, _⟩ := BB.out; clear gg g11)
        | (go_at_call 20; (with_reducible refine (K2.out _ G11.out).mono ?_); rintro e v12 ⟨rfl, g12⟩; have gg := (g12.alloc (.cells #[.int .i64 A3, .int .i64 B3] 26)).alloc (.cells #[.int .i64 A4, .int .i64 B4] 26); obtain ⟨V12, hV12⟩ : ∃ V12, (v12.alloc (.cells #[.int .i64 A3, .int .i64 B3] 26)).alloc (.cells #[.int .i64 A4, .int .i64 B4] 26) = V12 := ⟨_, rfl⟩; rw [hV12] at gg; have G12 := Lib.hid (G11.out.trans gg); have BA := Lib.hid (BA.out.gr gg); have BB := Lib.hid (BB.out.gr gg); have Y12 := Lib.hid (show Box2 V12 v12.heap.size A3 B3 by rw [← hV12]; exact (Box2.new rfl).gr ((Gr.refl _).alloc _)); have Z12 := Lib.hid (show Box2 V12 (v12.heap.size + 1) A4 B4 by rw [← hV12]; exact Box2.new (by simp)); have Y11 := Lib.hid (Y11.out.gr gg); have Z11 := Lib.hid (Z11.out.gr gg); (try clear xY11 yY11); obtain ⟨xY11, yY11, _⟩ := Y11.out; (try clear xZ11 yZ11); obtain ⟨xZ11, yZ11, _⟩ := Z11.out; (try clear xY12 yY12); obtain ⟨xY12, yY12, _⟩ := Y12.out; (try clear xZ12 yZ12); obtain ⟨xZ12, yZ12, _⟩ := Z12.out; clear p0 p1 s0 s1; obtain ⟨p0, p1⟩ := BA.out; obtain ⟨s0, s1, _⟩ := BB.out; clear gg g12)
        | (go_at_call 21; (with_reducible refine (M1.out _).mono ?_); rintro e v13 ⟨rfl, g13⟩; have G13 := Lib.hid (G12.out.trans g13); have BA := Lib.hid (BA.out.gr g13); have BB := Lib.hid (BB.out.gr g13); have Y11 := Lib.hid (Y11.out.gr g13); have Z11 := Lib.hid (Z11.out.gr g13); have Y12 := Lib.hid (Y12.out.gr g13); have Z12 := Lib.hid (Z12.out.gr g13); (try clear xY11 yY11); obtain ⟨xY11, yY11, _⟩ := Y11.out; (try clear xZ11 yZ11); obtain ⟨xZ11, yZ11, _⟩ := Z11.out; (try clear xY12 yY12); obtain ⟨xY12, yY12, _⟩ := Y12.out; (try clear xZ12 yZ12); obtain ⟨xZ12, yZ12, _⟩ := Z12.out; clear p0 p1 s0 s1; obtain ⟨p0, p1⟩ := BA.out; obtain ⟨s0, s1, _⟩ := BB.out; clear g13)
        | (go_at_call 9; refine (Awake_any _).mono ?_; rintro e w9 ⟨rfl, g9⟩))
      go_ret
      exact ⟨rfl, G13.out.trans g9⟩
    · have M1 := Lib.hid (fun w1 => less_no A1 B1 A3 B3 w1 SA.out SC.out t)
      have M2 := Lib.hid (fun w1 => less_no A2 B2 A4 B4 w1 SB.out SD.out t2)
      clear t t2 LT SA SB SC SD
      go_enter Tryd.func4, Tryd.ntmps4
      go_wp2_with (first
        | (go_at_call 8; (with_reducible refine (HL.out _).mono ?_); rintro e W1 ⟨rfl, g1⟩; have G1 := Lib.hid (G0.out.trans g1); have BA := Lib.hid (BA.out.gr g1); have BB := Lib.hid (BB.out.gr g1); clear p0 p1 s0 s1; obtain ⟨p0, p1⟩ := BA.out; obtain ⟨s0, s1, _⟩ := BB.out; clear g1)
        | (go_at_call 17; (with_reducible refine (CV.out _ G1.out).mono ?_); rintro e v2 ⟨rfl, g2⟩; have G2 := Lib.hid (G1.out.trans g2); have BA := Lib.hid (BA.out.gr g2); have BB := Lib.hid (BB.out.gr g2); clear p0 p1 s0 s1; obtain ⟨p0, p1⟩ := BA.out; obtain ⟨s0, s1, _⟩ := BB.out; clear g2)
        | (go_at_call 18; (with_reducible refine (CI1.out _ G2.out).mono ?_); rintro e v3 ⟨rfl, g3⟩; have G3 := Lib.hid (G2.out.trans g3); have BA := Lib.hid (BA.out.gr g3); have BB := Lib.hid (BB.out.gr g3); clear p0 p1 s0 s1; obtain ⟨p0, p1⟩ := BA.out; obtain ⟨s0, s1, _⟩ := BB.out; clear g3)
        | (go_at_call 18; (with_reducible refine (CI2.out _ G3.out).mono ?_); rintro e v4 ⟨rfl, g4⟩; have G4 := Lib.hid (G3.out.trans g4); have BA := Lib.hid (BA.out.gr g4); have BB := Lib.hid (BB.out.gr g4); clear p0 p1 s0 s1; obtain ⟨p0, p1⟩ := BA.out; obtain ⟨s0, s1, _⟩ := BB.out; clear g4)
        | (go_at_call 14; (with_reducible refine (H14.out _ G4.out).mono ?_); rintro e v5 ⟨rfl, g5⟩; have G5 := Lib.hid (G4.out.trans g5); have BA := Lib.hid (BA.out.gr g5); have BB := Lib.hid (BB.out.gr g5); clear p0 p1 s0 s1; obtain ⟨p0, p1⟩ := BA.out; obtain ⟨s0, s1, _⟩ := BB.out; clear g5)
        | (go_at_call 10; (with_reducible refine (H10.out _ G5.out).mono ?_); rintro e v6 ⟨rfl, g6⟩; have gg := g6.alloc (.cells #[.int .i64 (N1), .int .i64 (D1)] 26); obtain ⟨V6, hV6⟩ : ∃ V6, v6.alloc (.cells #[.int .i64 (N1), .int .i64 (D1)] 26) = V6 := ⟨_, rfl⟩; rw [hV6] at gg; have G6 := Lib.hid (G5.out.trans gg); have BA := Lib.hid (BA.out.gr gg); have BB := Lib.hid (BB.out.gr gg); have R6 := Lib.hid (show Box2 V6 v6.heap.size (N1) (D1) by rw [← hV6]; exact Box2.new rfl); clear p0 p1 s0 s1; obtain ⟨p0, p1⟩ := BA.out; obtain ⟨s0, s1, _⟩ := BB.out; clear gg g6)
        | (go_at_call 12; (with_reducible refine (H12.out _ G6.out).mono ?_); rintro e v7 ⟨a7x, c7x, rfl, _, _, q7, g7⟩; have L7 := Lib.hid q7; have G7 := Lib.hid (G6.out.trans g7); have BA := Lib.hid (BA.out.gr g7); have BB := Lib.hid (BB.out.gr g7); have R6 := Lib.hid (R6.out.gr g7); clear p0 p1 s0 s1; obtain ⟨p0, p1⟩ := BA.out; obtain ⟨s0, s1, _⟩ := BB.out; clear g7 q7)
        | (go_at_call 19; (with_reducible refine (CP.out _).mono ?_); rintro e v8 ⟨rfl, g8⟩; have G8 := Lib.hid (G7.out.trans g8); have BA := Lib.hid (BA.out.gr g8); have BB := Lib.hid (BB.out.gr g8); have R6 := Lib.hid (R6.out.gr g8); have L7 := Lib.hid (L7.out.gr g8); clear p0 p1 s0 s1; obtain ⟨p0, p1⟩ := BA.out; obtain ⟨s0, s1, _⟩ := BB.out; clear g8)
        | (go_at_call 10; (with_reducible refine (D10.out _ G8.out _ _ L7.out).mono ?_); rintro e v9 ⟨rfl, g9⟩; have gg := g9.alloc (.cells #[.int .i64 (N1), .int .i64 (D1)] 26); obtain ⟨V9, hV9⟩ : ∃ V9, v9.alloc (.cells #[.int .i64 (N1), .int .i64 (D1)] 26) = V9 := ⟨_, rfl⟩; rw [hV9] at gg; have G9 := Lib.hid (G8.out.trans gg); have BA := Lib.hid (BA.out.gr gg); have BB := Lib.hid (BB.out.gr gg); have R9 := Lib.hid (show Box2 V9 v9.heap.size (N1) (D1) by rw [← hV9]; exact Box2.new rfl); have R6 := Lib.hid (R6.out.gr gg); have L7 := Lib.hid (L7.out.gr gg); clear p0 p1 s0 s1; obtain ⟨p0, p1⟩ := BA.out; obtain ⟨s0, s1, _⟩ := BB.out; clear gg g9)
        | (go_at_call 14; (with_reducible refine (D14.out _ G9.out _ _ L7.out).mono ?_); rintro e v10 ⟨rfl, g10⟩; have G10 := Lib.hid (G9.out.trans g10); have BA := Lib.hid (BA.out.gr g10); have BB := Lib.hid (BB.out.gr g10); have R6 := Lib.hid (R6.out.gr g10); have R9 := Lib.hid (R9.out.gr g10); (try clear xR6 yR6); obtain ⟨xR6, yR6, _⟩ := R6.out; (try clear xR9 yR9); obtain ⟨xR9, yR9, _⟩ := R9.out; clear p0 p1 s0 s1; obtain ⟨p0, p1⟩ := BA.out; obtain ⟨s0, s1, _⟩ := BB.out; clear g10)
        | (go_at_call 20; (with_reducible refine (K1.out _ G10.out).mono ?_); rintro e v11 ⟨rfl, g11⟩; have gg := (g11.alloc (.cells #[.int .i64 A1, .int .i64 B1] 26)).alloc (.cells #[.int .i64 A2, .int .i64 B2] 26); obtain ⟨V11, hV11⟩ : ∃ V11, (v11.alloc (.cells #[.int .i64 A1, .int .i64 B1] 26)).alloc (.cells #[.int .i64 A2, .int .i64 B2] 26) = V11 := ⟨_, rfl⟩; rw [hV11] at gg; have G11 := Lib.hid (G10.out.trans gg); have BA := Lib.hid (BA.out.gr gg); have BB := Lib.hid (BB.out.gr gg); have Y11 := Lib.hid (show Box2 V11 v11.heap.size A1 B1 by rw [← hV11]; exact (Box2.new rfl).gr ((Gr.refl _).alloc _)); have Z11 := Lib.hid (show Box2 V11 (v11.heap.size + 1) A2 B2 by rw [← hV11]; exact Box2.new (by simp)); (try clear xY11 yY11); obtain ⟨xY11, yY11, _⟩ := Y11.out; (try clear xZ11 yZ11); obtain ⟨xZ11, yZ11, _⟩ := Z11.out; clear p0 p1 s0 s1; obtain ⟨p0, p1⟩ := BA.out; obtain ⟨s0, s1, _⟩ := BB.out; clear gg g11)
        | (go_at_call 20; (with_reducible refine (K2.out _ G11.out).mono ?_); rintro e v12 ⟨rfl, g12⟩; have gg := (g12.alloc (.cells #[.int .i64 A3, .int .i64 B3] 26)).alloc (.cells #[.int .i64 A4, .int .i64 B4] 26); obtain ⟨V12, hV12⟩ : ∃ V12, (v12.alloc (.cells #[.int .i64 A3, .int .i64 B3] 26)).alloc (.cells #[.int .i64 A4, .int .i64 B4] 26) = V12 := ⟨_, rfl⟩; rw [hV12] at gg; have G12 := Lib.hid (G11.out.trans gg); have BA := Lib.hid (BA.out.gr gg); have BB := Lib.hid (BB.out.gr gg); have Y12 := Lib.hid (show Box2 V12 v12.heap.size A3 B3 by rw [← hV12]; exact (Box2.new rfl).gr ((Gr.refl _).alloc _)); have Z12 := Lib.hid (show Box2 V12 (v12.heap.size + 1) A4 B4 by rw [← hV12]; exact Box2.new (by simp)); have Y11 := Lib.hid (Y11.out.gr gg); have Z11 := Lib.hid (Z11.out.gr gg); (try clear xY11 yY11); obtain ⟨xY11, yY11, _⟩ := Y11.out; (try clear xZ11 yZ11); obtain ⟨xZ11, yZ11, _⟩ := Z11.out; (try clear xY12 yY12); obtain ⟨xY12, yY12, _⟩ := Y12.out; (try clear xZ12 yZ12); obtain ⟨xZ12, yZ12, _⟩ := Z12.out; clear p0 p1 s0 s1; obtain ⟨p0, p1⟩ := BA.out; obtain ⟨s0, s1, _⟩ := BB.out; clear gg g12)
        | (go_at_call 21; (with_reducible refine (M1.out _).mono ?_); rintro e v13 ⟨rfl, g13⟩; have G13 := Lib.hid (G12.out.trans g13); have BA := Lib.hid (BA.out.gr g13); have BB := Lib.hid (BB.out.gr g13); have Y11 := Lib.hid (Y11.out.gr g13); have Z11 := Lib.hid (Z11.out.gr g13); have Y12 := Lib.hid (Y12.out.gr g13); have Z12 := Lib.hid (Z12.out.gr g13); (try clear xY11 yY11); obtain ⟨xY11, yY11, _⟩ := Y11.out; (try clear xZ11 yZ11); obtain ⟨xZ11, yZ11, _⟩ := Z11.out; (try clear xY12 yY12); obtain ⟨xY12, yY12, _⟩ := Y12.out; (try clear xZ12 yZ12); obtain ⟨xZ12, yZ12, _⟩ := Z12.out; clear p0 p1 s0 s1; obtain ⟨p0, p1⟩ := BA.out; obtain ⟨s0, s1, _⟩ := BB.out; clear g13)
        | (go_at_call 21; (with_reducible refine (M2.out _).mono ?_); rintro e v14 ⟨rfl, g14⟩; have G14 := Lib.hid (G13.out.trans g14); have BA := Lib.hid (BA.out.gr g14); have BB := Lib.hid (BB.out.gr g14); have Y11 := Lib.hid (Y11.out.gr g14); have Z11 := Lib.hid (Z11.out.gr g14); have Y12 := Lib.hid (Y12.out.gr g14); have Z12 := Lib.hid (Z12.out.gr g14); (try clear xY11 yY11); obtain ⟨xY11, yY11, _⟩ := Y11.out; (try clear xZ11 yZ11); obtain ⟨xZ11, yZ11, _⟩ := Z11.out; (try clear xY12 yY12); obtain ⟨xY12, yY12, _⟩ := Y12.out; (try clear xZ12 yZ12); obtain ⟨xZ12, yZ12, _⟩ := Z12.out; clear p0 p1 s0 s1; obtain ⟨p0, p1⟩ := BA.out; obtain ⟨s0, s1, _⟩ := BB.out; clear g14)
        | (go_at_call 9; refine (Awake_any _).mono ?_; rintro e w9 ⟨rfl, g9⟩))
      go_ret
      exact ⟨rfl, G14.out.trans g9⟩
  · have H14 := Lib.hid (show ∀ w1, Gr w w1 → Calls Tryd.prog 14 #[.agg #[.slice a n c, .slice b n d], .slice a3 q c3, .agg #[.int .i64 P, .int .i64 D]] w1 (RetBE false 0 w1) from fun w1 k => by
      have t := H14.out w1 k
      rwa [show (gnV f g n P D h q == topV f g n P D) = false from by simp [hG]] at t)
    clear LT SA SB SC SD
    clear hr hs l0 ht3 ht4 hT _fz _gz l60 hq hq4 hv hc hc4 hp V C3 C4 R F Gn sf sg bf bg kf3 kg3 kf4 kg4
    generalize rN (gnV f g n P D h q) (sm g n * D * sm f n) = N1 at *
    generalize rD (gnV f g n P D h q) (sm g n * D * sm f n) = D1 at *
    generalize rN (kp f h q) (sm f n) = A1 at *
    generalize rD (kp f h q) (sm f n) = B1 at *
    generalize rN (kp g h q) (sm g n) = A2 at *
    generalize rD (kp g h q) (sm g n) = B2 at *
    generalize rN (kp f u q4) (sm f n) = A3 at *
    generalize rD (kp f u q4) (sm f n) = B3 at *
    generalize rN (kp g u q4) (sm g n) = A4 at *
    generalize rD (kp g u q4) (sm g n) = B4 at *
    generalize cS n (drB f g n P D) = L at *
    generalize rN (topV f g n P D) (sm g n * D * sm f n) = N2 at *
    generalize rD (topV f g n P D) (sm g n * D * sm f n) = D2 at *
    by_cases hN : N1 = N2
    · subst hN
      have hD : ¬ D1 = D2 := fun x => hG (IJ.out rfl x)
      have e1 : (D1 == D2) = false := by simpa using hD
      clear hG IJ
      go_enter Tryd.func4, Tryd.ntmps4
      go_wp2_with (first
        | (go_at_call 8; (with_reducible refine (HL.out _).mono ?_); rintro e W1 ⟨rfl, g1⟩; have G1 := Lib.hid (G0.out.trans g1); have BA := Lib.hid (BA.out.gr g1); have BB := Lib.hid (BB.out.gr g1); clear p0 p1 s0 s1; obtain ⟨p0, p1⟩ := BA.out; obtain ⟨s0, s1, _⟩ := BB.out; clear g1)
        | (go_at_call 17; (with_reducible refine (CV.out _ G1.out).mono ?_); rintro e v2 ⟨rfl, g2⟩; have G2 := Lib.hid (G1.out.trans g2); have BA := Lib.hid (BA.out.gr g2); have BB := Lib.hid (BB.out.gr g2); clear p0 p1 s0 s1; obtain ⟨p0, p1⟩ := BA.out; obtain ⟨s0, s1, _⟩ := BB.out; clear g2)
        | (go_at_call 18; (with_reducible refine (CI1.out _ G2.out).mono ?_); rintro e v3 ⟨rfl, g3⟩; have G3 := Lib.hid (G2.out.trans g3); have BA := Lib.hid (BA.out.gr g3); have BB := Lib.hid (BB.out.gr g3); clear p0 p1 s0 s1; obtain ⟨p0, p1⟩ := BA.out; obtain ⟨s0, s1, _⟩ := BB.out; clear g3)
        | (go_at_call 18; (with_reducible refine (CI2.out _ G3.out).mono ?_); rintro e v4 ⟨rfl, g4⟩; have G4 := Lib.hid (G3.out.trans g4); have BA := Lib.hid (BA.out.gr g4); have BB := Lib.hid (BB.out.gr g4); clear p0 p1 s0 s1; obtain ⟨p0, p1⟩ := BA.out; obtain ⟨s0, s1, _⟩ := BB.out; clear g4)
        | (go_at_call 14; (with_reducible refine (H14.out _ G4.out).mono ?_); rintro e v5 ⟨rfl, g5⟩; have G5 := Lib.hid (G4.out.trans g5); have BA := Lib.hid (BA.out.gr g5); have BB := Lib.hid (BB.out.gr g5); clear p0 p1 s0 s1; obtain ⟨p0, p1⟩ := BA.out; obtain ⟨s0, s1, _⟩ := BB.out; clear g5)
        | (go_at_call 10; (with_reducible refine (H10.out _ G5.out).mono ?_); rintro e v6 ⟨rfl, g6⟩; have gg := g6.alloc (.cells #[.int .i64 (N1), .int .i64 (D1)] 26); obtain ⟨V6, hV6⟩ : ∃ V6, v6.alloc (.cells #[.int .i64 (N1), .int .i64 (D1)] 26) = V6 := ⟨_, rfl⟩; rw [hV6] at gg; have G6 := Lib.hid (G5.out.trans gg); have BA := Lib.hid (BA.out.gr gg); have BB := Lib.hid (BB.out.gr gg); have R6 := Lib.hid (show Box2 V6 v6.heap.size (N1) (D1) by rw [← hV6]; exact Box2.new rfl); clear p0 p1 s0 s1; obtain ⟨p0, p1⟩ := BA.out; obtain ⟨s0, s1, _⟩ := BB.out; clear gg g6)
        | (go_at_call 12; (with_reducible refine (H12.out _ G6.out).mono ?_); rintro e v7 ⟨a7x, c7x, rfl, _, _, q7, g7⟩; have L7 := Lib.hid q7; have G7 := Lib.hid (G6.out.trans g7); have BA := Lib.hid (BA.out.gr g7); have BB := Lib.hid (BB.out.gr g7); have R6 := Lib.hid (R6.out.gr g7); clear p0 p1 s0 s1; obtain ⟨p0, p1⟩ := BA.out; obtain ⟨s0, s1, _⟩ := BB.out; clear g7 q7)
        | (go_at_call 19; (with_reducible refine (CP.out _).mono ?_); rintro e v8 ⟨rfl, g8⟩; have G8 := Lib.hid (G7.out.trans g8); have BA := Lib.hid (BA.out.gr g8); have BB := Lib.hid (BB.out.gr g8); have R6 := Lib.hid (R6.out.gr g8); have L7 := Lib.hid (L7.out.gr g8); clear p0 p1 s0 s1; obtain ⟨p0, p1⟩ := BA.out; obtain ⟨s0, s1, _⟩ := BB.out; clear g8)
        | (go_at_call 10; (with_reducible refine (D10.out _ G8.out _ _ L7.out).mono ?_); rintro e v9 ⟨rfl, g9⟩; have gg := g9.alloc (.cells #[.int .i64 (N1), .int .i64 (D2)] 26); obtain ⟨V9, hV9⟩ : ∃ V9, v9.alloc (.cells #[.int .i64 (N1), .int .i64 (D2)] 26) = V9 := ⟨_, rfl⟩; rw [hV9] at gg; have G9 := Lib.hid (G8.out.trans gg); have BA := Lib.hid (BA.out.gr gg); have BB := Lib.hid (BB.out.gr gg); have R9 := Lib.hid (show Box2 V9 v9.heap.size (N1) (D2) by rw [← hV9]; exact Box2.new rfl); have R6 := Lib.hid (R6.out.gr gg); have L7 := Lib.hid (L7.out.gr gg); clear p0 p1 s0 s1; obtain ⟨p0, p1⟩ := BA.out; obtain ⟨s0, s1, _⟩ := BB.out; clear gg g9)
        | (go_at_call 14; (with_reducible refine (D14.out _ G9.out _ _ L7.out).mono ?_); rintro e v10 ⟨rfl, g10⟩; have G10 := Lib.hid (G9.out.trans g10); have BA := Lib.hid (BA.out.gr g10); have BB := Lib.hid (BB.out.gr g10); have R6 := Lib.hid (R6.out.gr g10); have R9 := Lib.hid (R9.out.gr g10); (try clear xR6 yR6); obtain ⟨xR6, yR6, _⟩ := R6.out; (try clear xR9 yR9); obtain ⟨xR9, yR9, _⟩ := R9.out; clear p0 p1 s0 s1; obtain ⟨p0, p1⟩ := BA.out; obtain ⟨s0, s1, _⟩ := BB.out; clear g10)
        | (go_at_call 20; (with_reducible refine (K1.out _ G10.out).mono ?_); rintro e v11 ⟨rfl, g11⟩; have gg := (g11.alloc (.cells #[.int .i64 A1, .int .i64 B1] 26)).alloc (.cells #[.int .i64 A2, .int .i64 B2] 26); obtain ⟨V11, hV11⟩ : ∃ V11, (v11.alloc (.cells #[.int .i64 A1, .int .i64 B1] 26)).alloc (.cells #[.int .i64 A2, .int .i64 B2] 26) = V11 := ⟨_, rfl⟩; rw [hV11] at gg; have G11 := Lib.hid (G10.out.trans gg); have BA := Lib.hid (BA.out.gr gg); have BB := Lib.hid (BB.out.gr gg); have Y11 := Lib.hid (show Box2 V11 v11.heap.size A1 B1 by rw [← hV11]; exact (Box2.new rfl).gr ((Gr.refl _).alloc _)); have Z11 := Lib.hid (show Box2 V11 (v11.heap.size + 1) A2 B2 by rw [← hV11]; exact Box2.new (by simp)); (try clear xY11 yY11); obtain ⟨xY11, yY11, _⟩ := Y11.out; (try clear xZ11 yZ11); obtain ⟨xZ11, yZ11, _⟩ := Z11.out; clear p0 p1 s0 s1; obtain ⟨p0, p1⟩ := BA.out; obtain ⟨s0, s1, _⟩ := BB.out; clear gg g11)
        | (go_at_call 20; (with_reducible refine (K2.out _ G11.out).mono ?_); rintro e v12 ⟨rfl, g12⟩; have gg := (g12.alloc (.cells #[.int .i64 A3, .int .i64 B3] 26)).alloc (.cells #[.int .i64 A4, .int .i64 B4] 26); obtain ⟨V12, hV12⟩ : ∃ V12, (v12.alloc (.cells #[.int .i64 A3, .int .i64 B3] 26)).alloc (.cells #[.int .i64 A4, .int .i64 B4] 26) = V12 := ⟨_, rfl⟩; rw [hV12] at gg; have G12 := Lib.hid (G11.out.trans gg); have BA := Lib.hid (BA.out.gr gg); have BB := Lib.hid (BB.out.gr gg); have Y12 := Lib.hid (show Box2 V12 v12.heap.size A3 B3 by rw [← hV12]; exact (Box2.new rfl).gr ((Gr.refl _).alloc _)); have Z12 := Lib.hid (show Box2 V12 (v12.heap.size + 1) A4 B4 by rw [← hV12]; exact Box2.new (by simp)); have Y11 := Lib.hid (Y11.out.gr gg); have Z11 := Lib.hid (Z11.out.gr gg); (try clear xY11 yY11); obtain ⟨xY11, yY11, _⟩ := Y11.out; (try clear xZ11 yZ11); obtain ⟨xZ11, yZ11, _⟩ := Z11.out; (try clear xY12 yY12); obtain ⟨xY12, yY12, _⟩ := Y12.out; (try clear xZ12 yZ12); obtain ⟨xZ12, yZ12, _⟩ := Z12.out; clear p0 p1 s0 s1; obtain ⟨p0, p1⟩ := BA.out; obtain ⟨s0, s1, _⟩ := BB.out; clear gg g12)
        | (go_at_call 9; refine (Awake_any _).mono ?_; rintro e w9 ⟨rfl, g9⟩))
      go_ret
      exact ⟨rfl, G12.out.trans g9⟩
    · have e1 : (N1 == N2) = false := by simpa using hN
      clear hG IJ
      go_enter Tryd.func4, Tryd.ntmps4
      go_wp2_with (first
        | (go_at_call 8; (with_reducible refine (HL.out _).mono ?_); rintro e W1 ⟨rfl, g1⟩; have G1 := Lib.hid (G0.out.trans g1); have BA := Lib.hid (BA.out.gr g1); have BB := Lib.hid (BB.out.gr g1); clear p0 p1 s0 s1; obtain ⟨p0, p1⟩ := BA.out; obtain ⟨s0, s1, _⟩ := BB.out; clear g1)
        | (go_at_call 17; (with_reducible refine (CV.out _ G1.out).mono ?_); rintro e v2 ⟨rfl, g2⟩; have G2 := Lib.hid (G1.out.trans g2); have BA := Lib.hid (BA.out.gr g2); have BB := Lib.hid (BB.out.gr g2); clear p0 p1 s0 s1; obtain ⟨p0, p1⟩ := BA.out; obtain ⟨s0, s1, _⟩ := BB.out; clear g2)
        | (go_at_call 18; (with_reducible refine (CI1.out _ G2.out).mono ?_); rintro e v3 ⟨rfl, g3⟩; have G3 := Lib.hid (G2.out.trans g3); have BA := Lib.hid (BA.out.gr g3); have BB := Lib.hid (BB.out.gr g3); clear p0 p1 s0 s1; obtain ⟨p0, p1⟩ := BA.out; obtain ⟨s0, s1, _⟩ := BB.out; clear g3)
        | (go_at_call 18; (with_reducible refine (CI2.out _ G3.out).mono ?_); rintro e v4 ⟨rfl, g4⟩; have G4 := Lib.hid (G3.out.trans g4); have BA := Lib.hid (BA.out.gr g4); have BB := Lib.hid (BB.out.gr g4); clear p0 p1 s0 s1; obtain ⟨p0, p1⟩ := BA.out; obtain ⟨s0, s1, _⟩ := BB.out; clear g4)
        | (go_at_call 14; (with_reducible refine (H14.out _ G4.out).mono ?_); rintro e v5 ⟨rfl, g5⟩; have G5 := Lib.hid (G4.out.trans g5); have BA := Lib.hid (BA.out.gr g5); have BB := Lib.hid (BB.out.gr g5); clear p0 p1 s0 s1; obtain ⟨p0, p1⟩ := BA.out; obtain ⟨s0, s1, _⟩ := BB.out; clear g5)
        | (go_at_call 10; (with_reducible refine (H10.out _ G5.out).mono ?_); rintro e v6 ⟨rfl, g6⟩; have gg := g6.alloc (.cells #[.int .i64 (N1), .int .i64 (D1)] 26); obtain ⟨V6, hV6⟩ : ∃ V6, v6.alloc (.cells #[.int .i64 (N1), .int .i64 (D1)] 26) = V6 := ⟨_, rfl⟩; rw [hV6] at gg; have G6 := Lib.hid (G5.out.trans gg); have BA := Lib.hid (BA.out.gr gg); have BB := Lib.hid (BB.out.gr gg); have R6 := Lib.hid (show Box2 V6 v6.heap.size (N1) (D1) by rw [← hV6]; exact Box2.new rfl); clear p0 p1 s0 s1; obtain ⟨p0, p1⟩ := BA.out; obtain ⟨s0, s1, _⟩ := BB.out; clear gg g6)
        | (go_at_call 12; (with_reducible refine (H12.out _ G6.out).mono ?_); rintro e v7 ⟨a7x, c7x, rfl, _, _, q7, g7⟩; have L7 := Lib.hid q7; have G7 := Lib.hid (G6.out.trans g7); have BA := Lib.hid (BA.out.gr g7); have BB := Lib.hid (BB.out.gr g7); have R6 := Lib.hid (R6.out.gr g7); clear p0 p1 s0 s1; obtain ⟨p0, p1⟩ := BA.out; obtain ⟨s0, s1, _⟩ := BB.out; clear g7 q7)
        | (go_at_call 19; (with_reducible refine (CP.out _).mono ?_); rintro e v8 ⟨rfl, g8⟩; have G8 := Lib.hid (G7.out.trans g8); have BA := Lib.hid (BA.out.gr g8); have BB := Lib.hid (BB.out.gr g8); have R6 := Lib.hid (R6.out.gr g8); have L7 := Lib.hid (L7.out.gr g8); clear p0 p1 s0 s1; obtain ⟨p0, p1⟩ := BA.out; obtain ⟨s0, s1, _⟩ := BB.out; clear g8)
        | (go_at_call 10; (with_reducible refine (D10.out _ G8.out _ _ L7.out).mono ?_); rintro e v9 ⟨rfl, g9⟩; have gg := g9.alloc (.cells #[.int .i64 (N2), .int .i64 (D2)] 26); obtain ⟨V9, hV9⟩ : ∃ V9, v9.alloc (.cells #[.int .i64 (N2), .int .i64 (D2)] 26) = V9 := ⟨_, rfl⟩; rw [hV9] at gg; have G9 := Lib.hid (G8.out.trans gg); have BA := Lib.hid (BA.out.gr gg); have BB := Lib.hid (BB.out.gr gg); have R9 := Lib.hid (show Box2 V9 v9.heap.size (N2) (D2) by rw [← hV9]; exact Box2.new rfl); have R6 := Lib.hid (R6.out.gr gg); have L7 := Lib.hid (L7.out.gr gg); clear p0 p1 s0 s1; obtain ⟨p0, p1⟩ := BA.out; obtain ⟨s0, s1, _⟩ := BB.out; clear gg g9)
        | (go_at_call 14; (with_reducible refine (D14.out _ G9.out _ _ L7.out).mono ?_); rintro e v10 ⟨rfl, g10⟩; have G10 := Lib.hid (G9.out.trans g10); have BA := Lib.hid (BA.out.gr g10); have BB := Lib.hid (BB.out.gr g10); have R6 := Lib.hid (R6.out.gr g10); have R9 := Lib.hid (R9.out.gr g10); (try clear xR6 yR6); obtain ⟨xR6, yR6, _⟩ := R6.out; (try clear xR9 yR9); obtain ⟨xR9, yR9, _⟩ := R9.out; clear p0 p1 s0 s1; obtain ⟨p0, p1⟩ := BA.out; obtain ⟨s0, s1, _⟩ := BB.out; clear g10)
        | (go_at_call 20; (with_reducible refine (K1.out _ G10.out).mono ?_); rintro e v11 ⟨rfl, g11⟩; have gg := (g11.alloc (.cells #[.int .i64 A1, .int .i64 B1] 26)).alloc (.cells #[.int .i64 A2, .int .i64 B2] 26); obtain ⟨V11, hV11⟩ : ∃ V11, (v11.alloc (.cells #[.int .i64 A1, .int .i64 B1] 26)).alloc (.cells #[.int .i64 A2, .int .i64 B2] 26) = V11 := ⟨_, rfl⟩; rw [hV11] at gg; have G11 := Lib.hid (G10.out.trans gg); have BA := Lib.hid (BA.out.gr gg); have BB := Lib.hid (BB.out.gr gg); have Y11 := Lib.hid (show Box2 V11 v11.heap.size A1 B1 by rw [← hV11]; exact (Box2.new rfl).gr ((Gr.refl _).alloc _)); have Z11 := Lib.hid (show Box2 V11 (v11.heap.size + 1) A2 B2 by rw [← hV11]; exact Box2.new (by simp)); (try clear xY11 yY11); obtain ⟨xY11, yY11, _⟩ := Y11.out; (try clear xZ11 yZ11); obtain ⟨xZ11, yZ11, _⟩ := Z11.out; clear p0 p1 s0 s1; obtain ⟨p0, p1⟩ := BA.out; obtain ⟨s0, s1, _⟩ := BB.out; clear gg g11)
        | (go_at_call 20; (with_reducible refine (K2.out _ G11.out).mono ?_); rintro e v12 ⟨rfl, g12⟩; have gg := (g12.alloc (.cells #[.int .i64 A3, .int .i64 B3] 26)).alloc (.cells #[.int .i64 A4, .int .i64 B4] 26); obtain ⟨V12, hV12⟩ : ∃ V12, (v12.alloc (.cells #[.int .i64 A3, .int .i64 B3] 26)).alloc (.cells #[.int .i64 A4, .int .i64 B4] 26) = V12 := ⟨_, rfl⟩; rw [hV12] at gg; have G12 := Lib.hid (G11.out.trans gg); have BA := Lib.hid (BA.out.gr gg); have BB := Lib.hid (BB.out.gr gg); have Y12 := Lib.hid (show Box2 V12 v12.heap.size A3 B3 by rw [← hV12]; exact (Box2.new rfl).gr ((Gr.refl _).alloc _)); have Z12 := Lib.hid (show Box2 V12 (v12.heap.size + 1) A4 B4 by rw [← hV12]; exact Box2.new (by simp)); have Y11 := Lib.hid (Y11.out.gr gg); have Z11 := Lib.hid (Z11.out.gr gg); (try clear xY11 yY11); obtain ⟨xY11, yY11, _⟩ := Y11.out; (try clear xZ11 yZ11); obtain ⟨xZ11, yZ11, _⟩ := Z11.out; (try clear xY12 yY12); obtain ⟨xY12, yY12, _⟩ := Y12.out; (try clear xZ12 yZ12); obtain ⟨xZ12, yZ12, _⟩ := Z12.out; clear p0 p1 s0 s1; obtain ⟨p0, p1⟩ := BA.out; obtain ⟨s0, s1, _⟩ := BB.out; clear gg g12)
        | (go_at_call 9; refine (Awake_any _).mono ?_; rintro e w9 ⟨rfl, g9⟩))
      go_ret
      exact ⟨rfl, G12.out.trans g9⟩

end Go.Proofs.YtohcnicadbpbbaaDoor

namespace Go.Proofs.YtohcnicadbpbbaaDoor
open Go.RowKit Go.Firn

set_option maxHeartbeats 8000000 in
set_option maxRecDepth 100000 in
theorem notBetter_yes (a1 b1 a2 b2 : Option Addr) (n1 c1 d1 n2 c2 d2 : Nat) (f1 g1 f2 g2 : Nat → Int) (A D : Int) (w : World) (r1 : RdI w a1 n1 f1) (s1 : RdI w b1 n1 g1) (r2 : RdI w a2 n2 f2) (s2 : RdI w b2 n2 g2) (hf1 : ∀ i, 0 ≤ f1 i) (hg1 : ∀ i, 0 ≤ g1 i) (hf2 : ∀ i, 0 ≤ f2 i) (hg2 : ∀ i, 0 ≤ g2 i) (V1 : VO n1 n1 f1 g1) (V2 : VO n2 n2 f2 g2) (hp : Noi A D) (hT : Tab w)
    (hb : kS g1 (beB f1 g1 n1 A D) n1 * sm g2 n2 ≤ kS g2 (beB f2 g2 n2 A D) n2 * sm g1 n1) :
    Calls Tryd.prog 31 #[.agg #[.slice a1 n1 c1, .slice b1 n1 d1], .agg #[.slice a2 n2 c2, .slice b2 n2 d2], .agg #[.int .i64 A, .int .i64 D]] w (RetB true w) := by
  obtain ⟨X0, hX0⟩ : ∃ X0, ((w.alloc (.cells #[.slice a1 n1 c1, .slice b1 n1 d1] 24)).alloc (.cells #[.slice a2 n2 c2, .slice b2 n2 d2] 24)).alloc (.cells #[.int .i64 A, .int .i64 D] 26) = X0 := ⟨_, rfl⟩
  have G0 := Lib.hid (show Gr w X0 by rw [← hX0]; exact (((Gr.refl w).alloc _).alloc _).alloc _)
  have BM := Lib.hid (show BoxO X0 w.heap.size (.slice a1 n1 c1) (.slice b1 n1 d1) by rw [← hX0]; exact (BoxO.new rfl).gr (((Gr.refl _).alloc _).alloc _))
  have BO := Lib.hid (show BoxO X0 (w.heap.size + 1) (.slice a2 n2 c2) (.slice b2 n2 d2) by rw [← hX0]; exact (BoxO.new (by simp)).gr ((Gr.refl _).alloc _))
  have BN := Lib.hid (show Box2 X0 (w.heap.size + 2) A D by rw [← hX0]; exact Box2.new (by simp))
  obtain ⟨bm_0, bm_1⟩ := BM.out
  obtain ⟨bo_0, bo_1⟩ := BO.out
  obtain ⟨bn_0, bn_1, _⟩ := BN.out
  have H1 := Lib.hid (fun w1 (k : Gr w w1) => Best_ok a1 b1 n1 c1 d1 f1 g1 A D w1 (r1.gr k) (s1.gr k) V1 hp (hT.gr k))
  have H2 := Lib.hid (fun w1 (k : Gr w w1) => Best_ok a2 b2 n2 c2 d2 f2 g2 A D w1 (r2.gr k) (s2.gr k) V2 hp (hT.gr k))
  have kk : ∀ {n : Nat} {f : Nat → Int} (V : VW n f) (hf : ∀ i, 0 ≤ f i) (s : Nat), Sml (rN (kS f s n) (sm f n)) (rD (kS f s n) (sm f n)) := fun {n f} V hf s => by
    have b := sm_pos_bd V
    have t := kS_bd hf s n
    exact sml_red b.1 (by omega) t.1 t.2
  have K1 := Lib.hid (show ∀ w1, Gr w w1 → ∀ av cv, RdI w1 av (cS n1 (beB f1 g1 n1 A D)).length (nf (cS n1 (beB f1 g1 n1 A D))) → Calls Tryd.prog 20 #[.agg #[.slice a1 n1 c1, .slice b1 n1 d1], .slice av (cS n1 (beB f1 g1 n1 A D)).length cv] w1 (RetKp (rN (kS f1 (beB f1 g1 n1 A D) n1) (sm f1 n1)) (rD (kS f1 (beB f1 g1 n1 A D) n1) (sm f1 n1)) (rN (kS g1 (beB f1 g1 n1 A D) n1) (sm g1 n1)) (rD (kS g1 (beB f1 g1 n1 A D) n1) (sm g1 n1)) w1) from fun w1 k av cv hx => by
    have t := kept_yes a1 b1 av n1 c1 d1 _ cv f1 g1 _ w1 (r1.gr k) (s1.gr k) hx hf1 hg1 V1 (cS_cut n1 _)
    rwa [kp_cS, kp_cS] at t)
  have K2 := Lib.hid (show ∀ w1, Gr w w1 → ∀ av cv, RdI w1 av (cS n2 (beB f2 g2 n2 A D)).length (nf (cS n2 (beB f2 g2 n2 A D))) → Calls Tryd.prog 20 #[.agg #[.slice a2 n2 c2, .slice b2 n2 d2], .slice av (cS n2 (beB f2 g2 n2 A D)).length cv] w1 (RetKp (rN (kS f2 (beB f2 g2 n2 A D) n2) (sm f2 n2)) (rD (kS f2 (beB f2 g2 n2 A D) n2) (sm f2 n2)) (rN (kS g2 (beB f2 g2 n2 A D) n2) (sm g2 n2)) (rD (kS g2 (beB f2 g2 n2 A D) n2) (sm g2 n2)) w1) from fun w1 k av cv hx => by
    have t := kept_yes a2 b2 av n2 c2 d2 _ cv f2 g2 _ w1 (r2.gr k) (s2.gr k) hx hf2 hg2 V2 (cS_cut n2 _)
    rwa [kp_cS, kp_cS] at t)
  have M1 := Lib.hid (fun w1 => less_no _ _ _ _ w1 (kk V2.signal hg2 (beB f2 g2 n2 A D)) (kk V1.signal hg1 (beB f1 g1 n1 A D)) (red_not V1.signal.pos V2.signal.pos hb))
  clear r1 s1 r2 s2 hf1 hg1 hf2 hg2 V1 V2 hp hT hb kk
  generalize rN (kS f1 (beB f1 g1 n1 A D) n1) (sm f1 n1) = A1 at *
  generalize rD (kS f1 (beB f1 g1 n1 A D) n1) (sm f1 n1) = B1 at *
  generalize rN (kS g1 (beB f1 g1 n1 A D) n1) (sm g1 n1) = A2 at *
  generalize rD (kS g1 (beB f1 g1 n1 A D) n1) (sm g1 n1) = B2 at *
  generalize rN (kS f2 (beB f2 g2 n2 A D) n2) (sm f2 n2) = A3 at *
  generalize rD (kS f2 (beB f2 g2 n2 A D) n2) (sm f2 n2) = B3 at *
  generalize rN (kS g2 (beB f2 g2 n2 A D) n2) (sm g2 n2) = A4 at *
  generalize rD (kS g2 (beB f2 g2 n2 A D) n2) (sm g2 n2) = B4 at *
  generalize cS n1 (beB f1 g1 n1 A D) = L1 at *
  generalize cS n2 (beB f2 g2 n2 A D) = L2 at *
  go_enter Tryd.func31, Tryd.ntmps31
  go_wp2_with (first
    | (go_at_call 38; (with_reducible refine (H1.out _ G0.out).mono ?_); rintro e v1 ⟨a1x, c1x, rfl, _, _, q1, g1⟩; have G1 := Lib.hid (G0.out.trans g1); have BM := Lib.hid (BM.out.gr g1); have BO := Lib.hid (BO.out.gr g1); have BN := Lib.hid (BN.out.gr g1); have LA := Lib.hid (q1); (try clear bm_0 bm_1); obtain ⟨bm_0, bm_1⟩ := BM.out; (try clear bo_0 bo_1); obtain ⟨bo_0, bo_1⟩ := BO.out; (try clear bn_0 bn_1); obtain ⟨bn_0, bn_1, _⟩ := BN.out; clear g1)
    | (go_at_call 38; (with_reducible refine (H2.out _ G1.out).mono ?_); rintro e v2 ⟨a2x, c2x, rfl, _, _, q2, g2⟩; have G2 := Lib.hid (G1.out.trans g2); have BM := Lib.hid (BM.out.gr g2); have BO := Lib.hid (BO.out.gr g2); have BN := Lib.hid (BN.out.gr g2); have LA := Lib.hid (LA.out.gr g2); have LB := Lib.hid (q2); (try clear bm_0 bm_1); obtain ⟨bm_0, bm_1⟩ := BM.out; (try clear bo_0 bo_1); obtain ⟨bo_0, bo_1⟩ := BO.out; (try clear bn_0 bn_1); obtain ⟨bn_0, bn_1, _⟩ := BN.out; clear g2)
    | (go_at_call 20; (with_reducible refine (K1.out _ G2.out _ _ LA.out).mono ?_); rintro e v3 ⟨rfl, g3⟩; have gg := (((g3).alloc (.cells #[.int .i64 A1, .int .i64 B1] 26))).alloc (.cells #[.int .i64 A2, .int .i64 B2] 26); obtain ⟨V3, hV3⟩ : ∃ V3, (v3.alloc (.cells #[.int .i64 A1, .int .i64 B1] 26)).alloc (.cells #[.int .i64 A2, .int .i64 B2] 26) = V3 := ⟨_, rfl⟩; rw [hV3] at gg; have G3 := Lib.hid (G2.out.trans gg); have BM := Lib.hid (BM.out.gr gg); have BO := Lib.hid (BO.out.gr gg); have BN := Lib.hid (BN.out.gr gg); have LA := Lib.hid (LA.out.gr gg); have LB := Lib.hid (LB.out.gr gg); have YA := Lib.hid (show Box2 V3 v3.heap.size A1 B1 by rw [← hV3]; exact (Box2.new rfl).gr ((Gr.refl _).alloc _)); have ZA := Lib.hid (show Box2 V3 (v3.heap.size + 1) A2 B2 by rw [← hV3]; exact Box2.new (by simp)); (try clear bm_0 bm_1); obtain ⟨bm_0, bm_1⟩ := BM.out; (try clear bo_0 bo_1); obtain ⟨bo_0, bo_1⟩ := BO.out; (try clear bn_0 bn_1); obtain ⟨bn_0, bn_1, _⟩ := BN.out; (try clear ya_0 ya_1); obtain ⟨ya_0, ya_1, _⟩ := YA.out; (try clear za_0 za_1); obtain ⟨za_0, za_1, _⟩ := ZA.out; clear g3 gg)
    | (go_at_call 20; (with_reducible refine (K2.out _ G3.out _ _ LB.out).mono ?_); rintro e v4 ⟨rfl, g4⟩; have gg := (((g4).alloc (.cells #[.int .i64 A3, .int .i64 B3] 26))).alloc (.cells #[.int .i64 A4, .int .i64 B4] 26); obtain ⟨V4, hV4⟩ : ∃ V4, (v4.alloc (.cells #[.int .i64 A3, .int .i64 B3] 26)).alloc (.cells #[.int .i64 A4, .int .i64 B4] 26) = V4 := ⟨_, rfl⟩; rw [hV4] at gg; have G4 := Lib.hid (G3.out.trans gg); have BM := Lib.hid (BM.out.gr gg); have BO := Lib.hid (BO.out.gr gg); have BN := Lib.hid (BN.out.gr gg); have LA := Lib.hid (LA.out.gr gg); have LB := Lib.hid (LB.out.gr gg); have YA := Lib.hid (YA.out.gr gg); have ZA := Lib.hid (ZA.out.gr gg); have YB := Lib.hid (show Box2 V4 v4.heap.size A3 B3 by rw [← hV4]; exact (Box2.new rfl).gr ((Gr.refl _).alloc _)); have ZB := Lib.hid (show Box2 V4 (v4.heap.size + 1) A4 B4 by rw [← hV4]; exact Box2.new (by simp)); (try clear bm_0 bm_1); obtain ⟨bm_0, bm_1⟩ := BM.out; (try clear bo_0 bo_1); obtain ⟨bo_0, bo_1⟩ := BO.out; (try clear bn_0 bn_1); obtain ⟨bn_0, bn_1, _⟩ := BN.out; (try clear ya_0 ya_1); obtain ⟨ya_0, ya_1, _⟩ := YA.out; (try clear za_0 za_1); obtain ⟨za_0, za_1, _⟩ := ZA.out; (try clear yb_0 yb_1); obtain ⟨yb_0, yb_1, _⟩ := YB.out; (try clear zb_0 zb_1); obtain ⟨zb_0, zb_1, _⟩ := ZB.out; clear g4 gg)
    | (go_at_call 21; (with_reducible refine (M1.out _).mono ?_); rintro e v5 ⟨rfl, g5⟩; have G5 := Lib.hid (G4.out.trans g5); have BM := Lib.hid (BM.out.gr g5); have BO := Lib.hid (BO.out.gr g5); have BN := Lib.hid (BN.out.gr g5); have LA := Lib.hid (LA.out.gr g5); have LB := Lib.hid (LB.out.gr g5); have YA := Lib.hid (YA.out.gr g5); have ZA := Lib.hid (ZA.out.gr g5); have YB := Lib.hid (YB.out.gr g5); have ZB := Lib.hid (ZB.out.gr g5); (try clear bm_0 bm_1); obtain ⟨bm_0, bm_1⟩ := BM.out; (try clear bo_0 bo_1); obtain ⟨bo_0, bo_1⟩ := BO.out; (try clear bn_0 bn_1); obtain ⟨bn_0, bn_1, _⟩ := BN.out; (try clear ya_0 ya_1); obtain ⟨ya_0, ya_1, _⟩ := YA.out; (try clear za_0 za_1); obtain ⟨za_0, za_1, _⟩ := ZA.out; (try clear yb_0 yb_1); obtain ⟨yb_0, yb_1, _⟩ := YB.out; (try clear zb_0 zb_1); obtain ⟨zb_0, zb_1, _⟩ := ZB.out; clear g5))
  go_ret
  exact ⟨rfl, G5.out⟩

theorem wr_sm {x y : Int} (h : -1000 ≤ x ∧ x ≤ 1000) (e : x = y) : IntKind.i64.wrap x = y ∧ wrap64 x = y := by
  subst e; exact wr64 (by omega)
theorem tmod_nat (x M : Nat) : (x : Int).tmod (M : Int) = ((x % M : Nat) : Int) := by rw [Int.tmod_eq_emod_of_nonneg (Int.natCast_nonneg x)]; rfl
theorem mrg_num {n x y : Nat} (n2 : 2 ≤ n) (n10 : n ≤ 10) : ∃ M i K r j : Nat, n - 1 = M ∧ i < j ∧ j < n ∧ (x : Int).tmod (M : Int) = (i : Int) ∧ (y : Int).tmod (K : Int) = (r : Int) ∧
    IntKind.i64.wrap ((n : Int) - 1) = (M : Int) ∧ wrap64 ((n : Int) - 1) = (M : Int) ∧ IntKind.i64.wrap ((M : Int) - (i : Int)) = (K : Int) ∧ wrap64 ((M : Int) - (i : Int)) = (K : Int) ∧ IntKind.i64.wrap ((i : Int) + 1) = (i : Int) + 1 ∧ wrap64 ((i : Int) + 1) = (i : Int) + 1 ∧
    IntKind.i64.wrap ((i : Int) + 1 + (r : Int)) = (j : Int) ∧ wrap64 ((i : Int) + 1 + (r : Int)) = (j : Int) ∧ ((M : Int) == 0) = false ∧ ¬ (M : Int) = 0 ∧ ((K : Int) == 0) = false ∧ ¬ (K : Int) = 0 := by
  have h1 : 0 < n - 1 := by omega
  have h2 : x % (n - 1) < n - 1 := Nat.mod_lt _ h1
  have h3 : 0 < n - 1 - x % (n - 1) := by omega
  have h4 : y % (n - 1 - x % (n - 1)) < n - 1 - x % (n - 1) := Nat.mod_lt _ h3
  have t1 : (x : Int).tmod ((n - 1 : Nat) : Int) = ((x % (n - 1) : Nat) : Int) := tmod_nat x (n - 1)
  have t2 : (y : Int).tmod ((n - 1 - x % (n - 1) : Nat) : Int) = ((y % (n - 1 - x % (n - 1)) : Nat) : Int) := tmod_nat y _
  refine ⟨n - 1, x % (n - 1), n - 1 - x % (n - 1), y % (n - 1 - x % (n - 1)), x % (n - 1) + 1 + y % (n - 1 - x % (n - 1)), rfl, ?_, ?_, t1, t2, ?_⟩
  · clear t1 t2; generalize x % (n - 1) = i at *; generalize y % (n - 1 - i) = r at *; omega
  · clear t1 t2; generalize x % (n - 1) = i at *; generalize y % (n - 1 - i) = r at *; omega
  clear t1 t2
  generalize x % (n - 1) = i at *
  generalize y % (n - 1 - i) = r at *
  have i10 : i ≤ 10 := by omega
  have r10 : r ≤ 10 := by omega
  have e : ¬ ((n - 1 : Nat) : Int) = 0 := by omega
  have f : ¬ ((n - 1 - i : Nat) : Int) = 0 := by omega
  have a1 : -1000 ≤ (n : Int) - 1 ∧ (n : Int) - 1 ≤ 1000 := by omega
  have a2 : (n : Int) - 1 = ((n - 1 : Nat) : Int) := by omega
  have b1 : -1000 ≤ ((n - 1 : Nat) : Int) - (i : Int) ∧ ((n - 1 : Nat) : Int) - (i : Int) ≤ 1000 := by omega
  have b2 : ((n - 1 : Nat) : Int) - (i : Int) = ((n - 1 - i : Nat) : Int) := by omega
  have c1 : -1000 ≤ (i : Int) + 1 ∧ (i : Int) + 1 ≤ 1000 := by omega
  have d1 : -1000 ≤ (i : Int) + 1 + (r : Int) ∧ (i : Int) + 1 + (r : Int) ≤ 1000 := by omega
  have d2 : (i : Int) + 1 + (r : Int) = ((i + 1 + r : Nat) : Int) := by omega
  have a := wr_sm a1 a2
  have b := wr_sm b1 b2
  have c := wr_sm c1 rfl
  have d := wr_sm d1 d2
  exact ⟨a.1, a.2, b.1, b.2, c.1, c.2, d.1, d.2, beq_eq_false_iff_ne.2 e, e, beq_eq_false_iff_ne.2 f, f⟩

set_option maxHeartbeats 16000000 in
set_option maxRecDepth 100000 in
theorem merge_core (a b : Option Addr) (n c d : Nat) (f g : Nat → Int) (x y : Nat) (P D : Int) (w : World) (hr : RdI w a n f) (hs : RdI w b n g) (hf : ∀ i, 0 ≤ f i) (hg : ∀ i, 0 ≤ g i) (V : VO n n f g) (n2 : 2 ≤ n) (hx : x < 256) (hy : y < 256) (hp : Noi P D) (hT : Tab w) :
    Calls Tryd.prog 6 #[.agg #[.slice a n c, .slice b n d], .int .u8 x, .int .u8 y, .agg #[.int .i64 P, .int .i64 D]] w (RetB true w) := by
  have n10 := V.noise.few
  obtain ⟨X0, hX0⟩ : ∃ X0, (w.alloc (.cells #[.slice a n c, .slice b n d] 24)).alloc (.cells #[.int .i64 P, .int .i64 D] 26) = X0 := ⟨_, rfl⟩
  have G0 := Lib.hid (show Gr w X0 by rw [← hX0]; exact ((Gr.refl w).alloc _).alloc _)
  have BA := Lib.hid (show BoxO X0 w.heap.size (.slice a n c) (.slice b n d) by rw [← hX0]; exact (BoxO.new rfl).gr ((Gr.refl _).alloc _))
  have BN := Lib.hid (show Box2 X0 (w.heap.size + 1) P D by rw [← hX0]; exact Box2.new (by simp))
  obtain ⟨ba_0, ba_1⟩ := BA.out
  obtain ⟨bn_0, bn_1, _⟩ := BN.out
  have HL := Lib.hid (fun w1 => Long_any a b n c n d w1)
  rw [lgO_false.2 ⟨by omega, by omega⟩] at HL
  have CV := Lib.hid (fun w1 (k : Gr w w1) => refValid_any a b n c n d f g w1 (by omega) (by omega) (hr.gr k) (hs.gr k))
  rw [vO_iff.2 V] at CV
  have CN := Lib.hid (fun w1 => IsNoise_any P D w1)
  rw [noB_iff.2 hp] at CN
  have i1 : ¬ (n : Int) < 2 := by omega
  obtain ⟨M, i, K, r, j, eM, hij, hjn, m0, m1, q1, q2, q3, q4, q5, q6, q7, q8, z0, z1, z2, z3⟩ := mrg_num (x := x) (y := y) n2 n10
  have M10 : M ≤ 10 := by omega
  have H28 := Lib.hid (fun w1 (k : Gr w w1) => Merged_ok a b n c d f g w1 (hr.gr k) (hs.gr k) V i j hij hjn)
  rw [eM] at H28
  have F1 := mg_all hf i j
  have G1' := mg_all hg i j
  have HV := Lib.hid (fun w1 ax ay (cx cy : Nat) (rx : RdI w1 ax M (mgF f i j)) (ry : RdI w1 ay M (mgF g i j)) => refValid_any ax ay M cx M cy (mgF f i j) (mgF g i j) w1 (by omega) (by omega) rx ry)
  have eX : ((M : Int) == (M : Int)) = true := by simp
  cases hv : vO M M (mgF f i j) (mgF g i j) with
  | false =>
    rw [hv] at HV
    have hx : (∃ p, p < M ∧ 1000 < mgF f i j p) ∨ ∃ p, p < M ∧ 1000 < mgF g i j p := by
      have t := mg_over V hij hjn (by rw [eM]; exact hv)
      rwa [eM] at t
    have HO := Lib.hid (fun w1 ax ay (cx cy : Nat) (rx : RdI w1 ax M (mgF f i j)) (ry : RdI w1 ay M (mgF g i j)) => over_yes ax ay M cx cy (mgF f i j) (mgF g i j) w1 (by omega) rx ry hx)
    clear hr hs hf hg V hp hT hx F1 G1' hv eM hij hjn
    generalize mgF f i j = F at *
    generalize mgF g i j = G at *
    go_enter Tryd.func6, Tryd.ntmps6
    go_wp2_with (first
      | (go_at_call 8; (with_reducible refine (HL.out _).mono ?_); rintro e v1 ⟨rfl, g1⟩; have G1 := Lib.hid (G0.out.trans g1); have BA := Lib.hid (BA.out.gr g1); have BN := Lib.hid (BN.out.gr g1); (try clear ba_0 ba_1); obtain ⟨ba_0, ba_1⟩ := BA.out; (try clear bn_0 bn_1); obtain ⟨bn_0, bn_1, _⟩ := BN.out; clear g1)
      | (go_at_call 17; (with_reducible refine (CV.out _ G1.out).mono ?_); rintro e v2 ⟨rfl, g2⟩; have G2 := Lib.hid (G1.out.trans g2); have BA := Lib.hid (BA.out.gr g2); have BN := Lib.hid (BN.out.gr g2); (try clear ba_0 ba_1); obtain ⟨ba_0, ba_1⟩ := BA.out; (try clear bn_0 bn_1); obtain ⟨bn_0, bn_1, _⟩ := BN.out; clear g2)
      | (go_at_call 27; (with_reducible refine (CN.out _).mono ?_); rintro e v3 ⟨rfl, g3⟩; have G3 := Lib.hid (G2.out.trans g3); have BA := Lib.hid (BA.out.gr g3); have BN := Lib.hid (BN.out.gr g3); (try clear ba_0 ba_1); obtain ⟨ba_0, ba_1⟩ := BA.out; (try clear bn_0 bn_1); obtain ⟨bn_0, bn_1, _⟩ := BN.out; clear g3)
      | (go_at_call 28; (with_reducible refine (H28.out _ G3.out).mono ?_); rintro e v4 ⟨a4x, c4x, a4y, c4y, rfl, r4, q4, g4⟩; have gg := (g4).alloc (.cells #[.slice a4x M c4x, .slice a4y M c4y] 24); obtain ⟨V4, hV4⟩ : ∃ V4, v4.alloc (.cells #[.slice a4x M c4x, .slice a4y M c4y] 24) = V4 := ⟨_, rfl⟩; rw [hV4] at gg; have G4 := Lib.hid (G3.out.trans gg); have BA := Lib.hid (BA.out.gr gg); have BN := Lib.hid (BN.out.gr gg); have BM := Lib.hid (show Box2v V4 v4.heap.size (.slice a4x M c4x) (.slice a4y M c4y) by rw [← hV4]; exact Box2v.new rfl); have RBM := Lib.hid (show RdI V4 a4x M F by rw [← hV4]; exact r4.gr ((Gr.refl _).alloc _)); have SBM := Lib.hid (show RdI V4 a4y M G by rw [← hV4]; exact q4.gr ((Gr.refl _).alloc _)); (try clear ba_0 ba_1); obtain ⟨ba_0, ba_1⟩ := BA.out; (try clear bn_0 bn_1); obtain ⟨bn_0, bn_1, _⟩ := BN.out; (try clear bm_0 bm_1); obtain ⟨bm_0, bm_1, _⟩ := BM.out; clear g4 gg)
      | (go_at_call 17; (with_reducible refine (HV.out _ _ _ _ _ RBM.out SBM.out).mono ?_); rintro e v5 ⟨rfl, g5⟩; have G5 := Lib.hid (G4.out.trans g5); have BA := Lib.hid (BA.out.gr g5); have BN := Lib.hid (BN.out.gr g5); have BM := Lib.hid (BM.out.gr g5); have RBM := Lib.hid (RBM.out.gr g5); have SBM := Lib.hid (SBM.out.gr g5); (try clear ba_0 ba_1); obtain ⟨ba_0, ba_1⟩ := BA.out; (try clear bn_0 bn_1); obtain ⟨bn_0, bn_1, _⟩ := BN.out; (try clear bm_0 bm_1); obtain ⟨bm_0, bm_1, _⟩ := BM.out; clear g5)
      | (go_at_call 29; (with_reducible refine (HO.out _ _ _ _ _ RBM.out SBM.out).mono ?_); rintro e v6 ⟨rfl, g6⟩; have G6 := Lib.hid (G5.out.trans g6); have BA := Lib.hid (BA.out.gr g6); have BN := Lib.hid (BN.out.gr g6); have BM := Lib.hid (BM.out.gr g6); have RBM := Lib.hid (RBM.out.gr g6); have SBM := Lib.hid (SBM.out.gr g6); (try clear ba_0 ba_1); obtain ⟨ba_0, ba_1⟩ := BA.out; (try clear bn_0 bn_1); obtain ⟨bn_0, bn_1, _⟩ := BN.out; (try clear bm_0 bm_1); obtain ⟨bm_0, bm_1, _⟩ := BM.out; clear g6)
      | (go_at_call 9; refine (Awake_any _).mono ?_; rintro e w9 ⟨rfl, g9⟩))
    go_ret
    exact ⟨rfl, G6.out.trans g9⟩
  | true =>
    rw [hv] at HV
    have V2 := vO_iff.1 hv
    have HM := Lib.hid (fun w1 ax ay (cx cy : Nat) (k : Gr w w1) (rx : RdI w1 ax M (mgF f i j)) (ry : RdI w1 ay M (mgF g i j)) => notMore_yes ax ay a b M cx cy n c d (mgF f i j) (mgF g i j) f g w1 rx ry (hr.gr k) (hs.gr k) F1 G1' hf hg V2 V (by have t := mg_mor (i := i) (j := j) hf hg V.noise.pos V.signal.pos hij hjn; rwa [eM] at t))
    have HB := Lib.hid (fun w1 ax ay (cx cy : Nat) (k : Gr w w1) (rx : RdI w1 ax M (mgF f i j)) (ry : RdI w1 ay M (mgF g i j)) => notBetter_yes ax ay a b M cx cy n c d (mgF f i j) (mgF g i j) f g P D w1 rx ry (hr.gr k) (hs.gr k) F1 G1' hf hg V2 V hp (hT.gr k) (by
      have e := mg_sum g hij hjn
      have t := mg_best (i := i) (j := j) hp V (by rw [eM]; exact V2) hij hjn
      rw [eM] at e t
      rw [e]
      exact Int.mul_le_mul_of_nonneg_right t (Int.le_of_lt V.signal.pos)))
    clear hr hs hf hg V hp hT F1 G1' hv eM hij hjn V2
    generalize mgF f i j = F at *
    generalize mgF g i j = G at *
    go_enter Tryd.func6, Tryd.ntmps6
    go_wp2_with (first
      | (go_at_call 8; (with_reducible refine (HL.out _).mono ?_); rintro e v1 ⟨rfl, g1⟩; have G1 := Lib.hid (G0.out.trans g1); have BA := Lib.hid (BA.out.gr g1); have BN := Lib.hid (BN.out.gr g1); (try clear ba_0 ba_1); obtain ⟨ba_0, ba_1⟩ := BA.out; (try clear bn_0 bn_1); obtain ⟨bn_0, bn_1, _⟩ := BN.out; clear g1)
      | (go_at_call 17; (with_reducible refine (CV.out _ G1.out).mono ?_); rintro e v2 ⟨rfl, g2⟩; have G2 := Lib.hid (G1.out.trans g2); have BA := Lib.hid (BA.out.gr g2); have BN := Lib.hid (BN.out.gr g2); (try clear ba_0 ba_1); obtain ⟨ba_0, ba_1⟩ := BA.out; (try clear bn_0 bn_1); obtain ⟨bn_0, bn_1, _⟩ := BN.out; clear g2)
      | (go_at_call 27; (with_reducible refine (CN.out _).mono ?_); rintro e v3 ⟨rfl, g3⟩; have G3 := Lib.hid (G2.out.trans g3); have BA := Lib.hid (BA.out.gr g3); have BN := Lib.hid (BN.out.gr g3); (try clear ba_0 ba_1); obtain ⟨ba_0, ba_1⟩ := BA.out; (try clear bn_0 bn_1); obtain ⟨bn_0, bn_1, _⟩ := BN.out; clear g3)
      | (go_at_call 28; (with_reducible refine (H28.out _ G3.out).mono ?_); rintro e v4 ⟨a4x, c4x, a4y, c4y, rfl, r4, q4, g4⟩; have gg := (g4).alloc (.cells #[.slice a4x M c4x, .slice a4y M c4y] 24); obtain ⟨V4, hV4⟩ : ∃ V4, v4.alloc (.cells #[.slice a4x M c4x, .slice a4y M c4y] 24) = V4 := ⟨_, rfl⟩; rw [hV4] at gg; have G4 := Lib.hid (G3.out.trans gg); have BA := Lib.hid (BA.out.gr gg); have BN := Lib.hid (BN.out.gr gg); have BM := Lib.hid (show Box2v V4 v4.heap.size (.slice a4x M c4x) (.slice a4y M c4y) by rw [← hV4]; exact Box2v.new rfl); have RBM := Lib.hid (show RdI V4 a4x M F by rw [← hV4]; exact r4.gr ((Gr.refl _).alloc _)); have SBM := Lib.hid (show RdI V4 a4y M G by rw [← hV4]; exact q4.gr ((Gr.refl _).alloc _)); (try clear ba_0 ba_1); obtain ⟨ba_0, ba_1⟩ := BA.out; (try clear bn_0 bn_1); obtain ⟨bn_0, bn_1, _⟩ := BN.out; (try clear bm_0 bm_1); obtain ⟨bm_0, bm_1, _⟩ := BM.out; clear g4 gg)
      | (go_at_call 17; (with_reducible refine (HV.out _ _ _ _ _ RBM.out SBM.out).mono ?_); rintro e v5 ⟨rfl, g5⟩; have G5 := Lib.hid (G4.out.trans g5); have BA := Lib.hid (BA.out.gr g5); have BN := Lib.hid (BN.out.gr g5); have BM := Lib.hid (BM.out.gr g5); have RBM := Lib.hid (RBM.out.gr g5); have SBM := Lib.hid (SBM.out.gr g5); (try clear ba_0 ba_1); obtain ⟨ba_0, ba_1⟩ := BA.out; (try clear bn_0 bn_1); obtain ⟨bn_0, bn_1, _⟩ := BN.out; (try clear bm_0 bm_1); obtain ⟨bm_0, bm_1, _⟩ := BM.out; clear g5)
      | (go_at_call 30; (with_reducible refine (HM.out _ _ _ _ _ G5.out RBM.out SBM.out).mono ?_); rintro e v6 ⟨rfl, g6⟩; have G6 := Lib.hid (G5.out.trans g6); have BA := Lib.hid (BA.out.gr g6); have BN := Lib.hid (BN.out.gr g6); have BM := Lib.hid (BM.out.gr g6); have RBM := Lib.hid (RBM.out.gr g6); have SBM := Lib.hid (SBM.out.gr g6); (try clear ba_0 ba_1); obtain ⟨ba_0, ba_1⟩ := BA.out; (try clear bn_0 bn_1); obtain ⟨bn_0, bn_1, _⟩ := BN.out; (try clear bm_0 bm_1); obtain ⟨bm_0, bm_1, _⟩ := BM.out; clear g6)
      | (go_at_call 31; (with_reducible refine (HB.out _ _ _ _ _ G6.out RBM.out SBM.out).mono ?_); rintro e v7 ⟨rfl, g7⟩; have G7 := Lib.hid (G6.out.trans g7); have BA := Lib.hid (BA.out.gr g7); have BN := Lib.hid (BN.out.gr g7); have BM := Lib.hid (BM.out.gr g7); have RBM := Lib.hid (RBM.out.gr g7); have SBM := Lib.hid (SBM.out.gr g7); (try clear ba_0 ba_1); obtain ⟨ba_0, ba_1⟩ := BA.out; (try clear bn_0 bn_1); obtain ⟨bn_0, bn_1, _⟩ := BN.out; (try clear bm_0 bm_1); obtain ⟨bm_0, bm_1, _⟩ := BM.out; clear g7)
      | (go_at_call 9; refine (Awake_any _).mono ?_; rintro e w9 ⟨rfl, g9⟩))
    go_ret
    exact ⟨rfl, G7.out.trans g9⟩

theorem wf8 {x : Int} (h : (Lit.int .u8 x).wf = true) : ∃ v : Nat, x = (v : Int) ∧ v < 256 := by
  simp [Lit.wf, IntKind.min, IntKind.max, IntKind.signed, IntKind.bits] at h
  exact ⟨x.toNat, by omega, by omega⟩

set_option maxHeartbeats 16000000 in
set_option maxRecDepth 100000 in
theorem merges_walk (a b : Option Addr) (n c m d : Nat) (f g : Nat → Int) (X Y : Int) (P D : Int) (w : World) (_hn : n ≤ 9223372036854775807) (_hm : m ≤ 9223372036854775807) (_nc : n ≤ c) (_cl : c ≤ maxLen) (_md : m ≤ d) (_dl : d ≤ maxLen) (_fz : ∀ i, n ≤ i → f i = 0) (_gz : ∀ i, m ≤ i → g i = 0) (hr : RdI w a n f) (hs : RdI w b m g) (wX : (Lit.int .u8 X).wf = true) (wY : (Lit.int .u8 Y).wf = true) (_wP : (Lit.int .i64 P).wf = true) (_wD : (Lit.int .i64 D).wf = true) (hT : Tab w) :
    Calls Tryd.prog 6 #[.agg #[.slice a n c, .slice b m d], .int .u8 X, .int .u8 Y, .agg #[.int .i64 P, .int .i64 D]] w (RetB true w) := by
  obtain ⟨x, rfl, hx⟩ := wf8 wX
  obtain ⟨y, rfl, hy⟩ := wf8 wY
  obtain ⟨X0, hX0⟩ : ∃ X0, (w.alloc (.cells #[.slice a n c, .slice b m d] 24)).alloc (.cells #[.int .i64 P, .int .i64 D] 26) = X0 := ⟨_, rfl⟩
  have G0 := Lib.hid (show Gr w X0 by rw [← hX0]; exact ((Gr.refl w).alloc _).alloc _)
  have BA := Lib.hid (show BoxO X0 w.heap.size (.slice a n c) (.slice b m d) by rw [← hX0]; exact (BoxO.new rfl).gr ((Gr.refl _).alloc _))
  have BN := Lib.hid (show Box2 X0 (w.heap.size + 1) P D by rw [← hX0]; exact Box2.new (by simp))
  obtain ⟨ba_0, ba_1⟩ := BA.out
  obtain ⟨bn_0, bn_1, _⟩ := BN.out
  have HL := Lib.hid (fun w1 => Long_any a b n c m d w1)
  clear _hn _hm _nc _cl _md _dl _wP _wD wX wY
  by_cases l0 : lgO n m = true
  · rw [l0] at HL
    clear hr hs l0 hT _fz _gz
    go_enter Tryd.func6, Tryd.ntmps6
    go_wp2_with (first
      | (go_at_call 8; (with_reducible refine (HL.out _).mono ?_); rintro e v1 ⟨rfl, g1⟩; have G1 := Lib.hid (G0.out.trans g1); have BA := Lib.hid (BA.out.gr g1); have BN := Lib.hid (BN.out.gr g1); (try clear ba_0 ba_1); obtain ⟨ba_0, ba_1⟩ := BA.out; (try clear bn_0 bn_1); obtain ⟨bn_0, bn_1, _⟩ := BN.out; clear g1)
      | (go_at_call 9; refine (Awake_any _).mono ?_; rintro e w9 ⟨rfl, g9⟩))
    go_ret
    exact ⟨rfl, G1.out.trans g9⟩
  rw [Bool.not_eq_true] at l0
  rw [l0] at HL
  have l60 := lgO_false.1 l0
  have CV := Lib.hid (fun w1 (k : Gr w w1) => refValid_any a b n c m d f g w1 (by omega) (by omega) (hr.gr k) (hs.gr k))
  cases hv : vO n m f g with
  | false =>
    rw [hv] at CV
    clear hr hs l0 hT _fz _gz l60 hv
    go_enter Tryd.func6, Tryd.ntmps6
    go_wp2_with (first
      | (go_at_call 8; (with_reducible refine (HL.out _).mono ?_); rintro e v1 ⟨rfl, g1⟩; have G1 := Lib.hid (G0.out.trans g1); have BA := Lib.hid (BA.out.gr g1); have BN := Lib.hid (BN.out.gr g1); (try clear ba_0 ba_1); obtain ⟨ba_0, ba_1⟩ := BA.out; (try clear bn_0 bn_1); obtain ⟨bn_0, bn_1, _⟩ := BN.out; clear g1)
      | (go_at_call 17; (with_reducible refine (CV.out _ G1.out).mono ?_); rintro e v2 ⟨rfl, g2⟩; have G2 := Lib.hid (G1.out.trans g2); have BA := Lib.hid (BA.out.gr g2); have BN := Lib.hid (BN.out.gr g2); (try clear ba_0 ba_1); obtain ⟨ba_0, ba_1⟩ := BA.out; (try clear bn_0 bn_1); obtain ⟨bn_0, bn_1, _⟩ := BN.out; clear g2)
      | (go_at_call 9; refine (Awake_any _).mono ?_; rintro e w9 ⟨rfl, g9⟩))
    go_ret
    exact ⟨rfl, G2.out.trans g9⟩
  | true =>
  rw [hv] at CV
  by_cases n2 : n < 2
  · have i1 : (n : Int) < 2 := by omega
    clear hr hs l0 hT _fz _gz l60 hv
    go_enter Tryd.func6, Tryd.ntmps6
    go_wp2_with (first
      | (go_at_call 8; (with_reducible refine (HL.out _).mono ?_); rintro e v1 ⟨rfl, g1⟩; have G1 := Lib.hid (G0.out.trans g1); have BA := Lib.hid (BA.out.gr g1); have BN := Lib.hid (BN.out.gr g1); (try clear ba_0 ba_1); obtain ⟨ba_0, ba_1⟩ := BA.out; (try clear bn_0 bn_1); obtain ⟨bn_0, bn_1, _⟩ := BN.out; clear g1)
      | (go_at_call 17; (with_reducible refine (CV.out _ G1.out).mono ?_); rintro e v2 ⟨rfl, g2⟩; have G2 := Lib.hid (G1.out.trans g2); have BA := Lib.hid (BA.out.gr g2); have BN := Lib.hid (BN.out.gr g2); (try clear ba_0 ba_1); obtain ⟨ba_0, ba_1⟩ := BA.out; (try clear bn_0 bn_1); obtain ⟨bn_0, bn_1, _⟩ := BN.out; clear g2)
      | (go_at_call 9; refine (Awake_any _).mono ?_; rintro e w9 ⟨rfl, g9⟩))
    go_ret
    exact ⟨rfl, G2.out.trans g9⟩
  have i1 : ¬ (n : Int) < 2 := by omega
  have CN := Lib.hid (fun w1 => IsNoise_any P D w1)
  cases hp : noB P D with
  | false =>
    rw [hp] at CN
    clear hr hs l0 hT _fz _gz l60 hv hp
    go_enter Tryd.func6, Tryd.ntmps6
    go_wp2_with (first
      | (go_at_call 8; (with_reducible refine (HL.out _).mono ?_); rintro e v1 ⟨rfl, g1⟩; have G1 := Lib.hid (G0.out.trans g1); have BA := Lib.hid (BA.out.gr g1); have BN := Lib.hid (BN.out.gr g1); (try clear ba_0 ba_1); obtain ⟨ba_0, ba_1⟩ := BA.out; (try clear bn_0 bn_1); obtain ⟨bn_0, bn_1, _⟩ := BN.out; clear g1)
      | (go_at_call 17; (with_reducible refine (CV.out _ G1.out).mono ?_); rintro e v2 ⟨rfl, g2⟩; have G2 := Lib.hid (G1.out.trans g2); have BA := Lib.hid (BA.out.gr g2); have BN := Lib.hid (BN.out.gr g2); (try clear ba_0 ba_1); obtain ⟨ba_0, ba_1⟩ := BA.out; (try clear bn_0 bn_1); obtain ⟨bn_0, bn_1, _⟩ := BN.out; clear g2)
      | (go_at_call 27; (with_reducible refine (CN.out _).mono ?_); rintro e v3 ⟨rfl, g3⟩; have G3 := Lib.hid (G2.out.trans g3); have BA := Lib.hid (BA.out.gr g3); have BN := Lib.hid (BN.out.gr g3); (try clear ba_0 ba_1); obtain ⟨ba_0, ba_1⟩ := BA.out; (try clear bn_0 bn_1); obtain ⟨bn_0, bn_1, _⟩ := BN.out; clear g3)
      | (go_at_call 9; refine (Awake_any _).mono ?_; rintro e w9 ⟨rfl, g9⟩))
    go_ret
    exact ⟨rfl, G3.out.trans g9⟩
  | true =>
  have V := vO_iff.1 hv
  obtain rfl := V.same
  exact merge_core a b n c d f g x y P D w hr hs (nn_all2 V.noise _fz) (nn_all2 V.signal _gz) V (by omega) hx hy (noB_iff.1 hp) hT

end Go.Proofs.YtohcnicadbpbbaaDoor
