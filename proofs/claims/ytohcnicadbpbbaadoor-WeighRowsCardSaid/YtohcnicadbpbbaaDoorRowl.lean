/- The walk of WeighRows: it returns true at all odds, ints and ratios. -/
import Derived.Test.YtohcnicadbpbbaaDoorXB
import Derived.Test.YtohcnicadbpbbaaDoorGains
namespace Go.Proofs.YtohcnicadbpbbaaDoor
open Go.RowKit Go.Firn

section
variable {a b : Option Addr} {n c m d : Nat} {f g : Nat → Int} {w : World}
theorem nn_all {n : Nat} {f : Nat → Int} (V : VW n f) (hf : ∀ i, n ≤ i → f i = 0) (i : Nat) : 0 ≤ f i := by
  by_cases h : i < n
  · exact (V.ok i h).1
  · rw [hf i (by omega)]; exact Int.le_refl 0
theorem row_both (hn : n ≤ 60) (hm : m ≤ 60) (hf : ∀ i, n ≤ i → f i = 0) (hg : ∀ i, m ≤ i → g i = 0) (hr : RdI w a n f) (hs : RdI w b m g) : BothI 32 33 #[.agg #[.slice a n c, .slice b m d]] w := by
  cases hv : vO n m f g with
  | false => exact ⟨0, _, 70, by omega, fun w1 k => Row_no a b n c m d f g w1 (by omega) (by omega) (hr.gr k) (hs.gr k) hv, fun w1 k => refRow_no a b n c m d f g w1 (by omega) (by omega) (hr.gr k) (hs.gr k) hv⟩
  | true =>
    have V := vO_iff.1 hv
    obtain rfl := V.same
    have F := nn_all V.noise hf
    have G := nn_all V.signal hg
    exact ⟨n, _, 0, by omega, fun w1 k => Row_ok a b n c d f g w1 (hr.gr k) (hs.gr k) F G V, fun w1 k => refRow_ok a b n c d f g w1 (hr.gr k) (hs.gr k) F G V⟩
theorem cut_both (x : Int) (hn : n ≤ 60) (hm : m ≤ 60) (hf : ∀ i, n ≤ i → f i = 0) (hg : ∀ i, m ≤ i → g i = 0) (hr : RdI w a n f) (hs : RdI w b m g) : BothI 34 35 #[.agg #[.slice a n c, .slice b m d], .int .i64 x] w := by
  cases hv : vO n m f g with
  | false => exact ⟨0, _, 70, by omega, fun w1 k => Cut_no a b n c m d f g x w1 (by omega) (by omega) (hr.gr k) (hs.gr k) hv, fun w1 k => refCut_no a b n c m d f g x w1 (by omega) (by omega) (hr.gr k) (hs.gr k) hv⟩
  | true =>
    have V := vO_iff.1 hv
    obtain rfl := V.same
    have F := nn_all V.noise hf
    have G := nn_all V.signal hg
    cases hk : btw 0 x n with
    | false => exact ⟨0, _, 2, by omega, fun w1 k => Cut_bad a b n c d f g x w1 (hr.gr k) (hs.gr k) V hk, fun w1 k => refCut_bad a b n c d f g x w1 (hr.gr k) (hs.gr k) V hk⟩
    | true =>
      obtain ⟨k0, k1⟩ := btw_true.1 hk
      obtain ⟨j, rfl⟩ := Int.eq_ofNat_of_zero_le k0
      have jn : j ≤ n := by omega
      exact ⟨j, _, 0, by omega, fun w1 k => Cut_ok a b n c d f g j w1 jn (hr.gr k) (hs.gr k) F G V, fun w1 k => refCut_ok a b n c d f g j w1 (hr.gr k) (hs.gr k) jn F G V⟩
theorem price_both (x : Int) (hn : n ≤ 60) (hm : m ≤ 60) (hf : ∀ i, n ≤ i → f i = 0) (hg : ∀ i, m ≤ i → g i = 0) (hr : RdI w a n f) (hs : RdI w b m g) : BothR 36 37 #[.agg #[.slice a n c, .slice b m d], .int .i64 x] w := by
  cases hv : vO n m f g with
  | false => exact ⟨0, 0, 70, fun w1 k => Price_no a b n c m d f g x w1 (by omega) (by omega) (hr.gr k) (hs.gr k) hv, fun w1 k => refPrice_no a b n c m d f g x w1 (by omega) (by omega) (hr.gr k) (hs.gr k) hv⟩
  | true =>
    have V := vO_iff.1 hv
    obtain rfl := V.same
    have F := nn_all V.noise hf
    have G := nn_all V.signal hg
    cases hk : btw 1 x n with
    | false => exact ⟨0, 0, 2, fun w1 k => Price_bad a b n c d f g x w1 (hr.gr k) (hs.gr k) V hk, fun w1 k => refPrice_bad a b n c d f g x w1 (hr.gr k) (hs.gr k) V hk⟩
    | true =>
      obtain ⟨k0, k1⟩ := btw_true.1 hk
      obtain ⟨j, hj⟩ := Int.eq_ofNat_of_zero_le (show 0 ≤ x - 1 by omega)
      obtain rfl : x = (j : Int) + 1 := by omega
      have jn : j < n := by omega
      by_cases h0 : f (rowN f g n j) = 0
      · exact ⟨0, 0, 5, fun w1 k => by have h := Price_ok a b n c d f g j w1 (hr.gr k) (hs.gr k) jn F G V; rwa [if_pos h0] at h, fun w1 k => by have h := refPrice_ok a b n c d f g j w1 (hr.gr k) (hs.gr k) jn F G V; rwa [if_pos h0] at h⟩
      · exact ⟨_, _, 0, fun w1 k => by have h := Price_ok a b n c d f g j w1 (hr.gr k) (hs.gr k) jn F G V; rw [if_neg h0] at h; exact h, fun w1 k => by have h := refPrice_ok a b n c d f g j w1 (hr.gr k) (hs.gr k) jn F G V; rw [if_neg h0] at h; exact h⟩
theorem best_both (A D : Int) (hT : Tab w) (hn : n ≤ 60) (hm : m ≤ 60) (hr : RdI w a n f) (hs : RdI w b m g) : BothI 38 39 #[.agg #[.slice a n c, .slice b m d], .agg #[.int .i64 A, .int .i64 D]] w := by
  cases hv : vO n m f g with
  | false => exact ⟨0, _, 70, by omega, fun w1 k => Best_no a b n c m d f g A D w1 (by omega) (by omega) (hr.gr k) (hs.gr k) hv, fun w1 k => refBest_no a b n c m d f g A D w1 (by omega) (by omega) (hr.gr k) (hs.gr k) hv⟩
  | true =>
    have V := vO_iff.1 hv
    obtain rfl := V.same
    cases hp : noB A D with
    | false => exact ⟨0, _, 2, by omega, fun w1 k => Best_bad a b n c d f g A D w1 (hr.gr k) (hs.gr k) V hp, fun w1 k => refBest_bad a b n c n d f g A D w1 (by omega) (by omega) (hr.gr k) (hs.gr k) hv hp⟩
    | true =>
      have R := noB_iff.1 hp
      have l := cS_len (n := n) (beB f g n A D)
      have := V.noise.few
      exact ⟨_, _, 0, by omega, fun w1 k => Best_ok a b n c d f g A D w1 (hr.gr k) (hs.gr k) V R (hT.gr k), fun w1 k => refBest_ok a b n c d f g A D w1 (hr.gr k) (hs.gr k) V R⟩
end

set_option maxHeartbeats 8000000 in
set_option maxRecDepth 100000 in
theorem rows_walk (a b : Option Addr) (n c m d : Nat) (f g : Nat → Int) (x : Int) (A D : Int) (w : World) (_hn : n ≤ 9223372036854775807) (_hm : m ≤ 9223372036854775807) (_nc : n ≤ c) (_cl : c ≤ maxLen) (_md : m ≤ d) (_dl : d ≤ maxLen) (_fz : ∀ i, n ≤ i → f i = 0) (_gz : ∀ i, m ≤ i → g i = 0) (hr : RdI w a n f) (hs : RdI w b m g) (_wx : (Lit.int .i64 x).wf = true) (_wP : (Lit.int .i64 A).wf = true) (_wD : (Lit.int .i64 D).wf = true) (hT : Tab w) :
    Calls Tryd.prog 7 #[.agg #[.slice a n c, .slice b m d], .int .i64 x, .agg #[.int .i64 A, .int .i64 D]] w (RetB true w) := by
  obtain ⟨X0, hX0⟩ : ∃ X0, (w.alloc (.cells #[.slice a n c, .slice b m d] 24)).alloc (.cells #[.int .i64 A, .int .i64 D] 26) = X0 := ⟨_, rfl⟩
  have G0 := Lib.hid (show Gr w X0 by rw [← hX0]; exact ((Gr.refl w).alloc _).alloc _)
  have BA := Lib.hid (show BoxO X0 w.heap.size (.slice a n c) (.slice b m d) by rw [← hX0]; exact (BoxO.new rfl).gr ((Gr.refl _).alloc _))
  have BB := Lib.hid (show Box2 X0 (w.heap.size + 1) A D by rw [← hX0]; exact Box2.new (by simp))
  obtain ⟨p0, p1⟩ := BA.out
  obtain ⟨s0, s1, _⟩ := BB.out
  have HL := Lib.hid (fun w1 => Long_any a b n c m d w1)
  clear _hn _hm _nc _cl _md _dl _wx _wP _wD
  cases hl : lgO n m with
  | true =>
    rw [hl] at HL
    clear hr hs hl hT _fz _gz
    go_enter Tryd.func7, Tryd.ntmps7
    go_wp2_with (first
      | (go_at_call 8; (with_reducible refine (HL.out _).mono ?_); rintro e W1 ⟨rfl, g1⟩; have G1 := Lib.hid (G0.out.trans g1); have BA := Lib.hid (BA.out.gr g1); have BB := Lib.hid (BB.out.gr g1); clear p0 p1 s0 s1; obtain ⟨p0, p1⟩ := BA.out; obtain ⟨s0, s1, _⟩ := BB.out; clear g1)
      | (go_at_call 9; refine (Awake_any _).mono ?_; rintro e w9 ⟨rfl, g9⟩))
    go_ret
    exact ⟨rfl, G1.out.trans g9⟩
  | false =>
    rw [hl] at HL
    have l60 := lgO_false.1 hl
    obtain ⟨N1, F1, E1, n1, H1, H2⟩ := row_both (c := c) (d := d) l60.1 l60.2 _fz _gz hr hs
    obtain ⟨N2, F2, E2, n2, H3, H4⟩ := cut_both (c := c) (d := d) x l60.1 l60.2 _fz _gz hr hs
    obtain ⟨X, Y, E3, H5, H6⟩ := price_both (c := c) (d := d) x l60.1 l60.2 _fz _gz hr hs
    obtain ⟨N4, F4, E4, n4, H7, H8⟩ := best_both (c := c) (d := d) A D hT l60.1 l60.2 hr hs
    have H1 := Lib.hid H1
    have H2 := Lib.hid H2
    have H3 := Lib.hid H3
    have H4 := Lib.hid H4
    have H5 := Lib.hid H5
    have H6 := Lib.hid H6
    have H7 := Lib.hid H7
    have H8 := Lib.hid H8
    clear hr hs hl hT l60 _fz _gz
    go_enter Tryd.func7, Tryd.ntmps7
    go_wp2_with (first
      | (go_at_call 8; (with_reducible refine (HL.out _).mono ?_); rintro e W1 ⟨rfl, g1⟩; have G1 := Lib.hid (G0.out.trans g1); have BA := Lib.hid (BA.out.gr g1); have BB := Lib.hid (BB.out.gr g1); clear p0 p1 s0 s1; obtain ⟨p0, p1⟩ := BA.out; obtain ⟨s0, s1, _⟩ := BB.out; clear g1)
      | (go_at_call 32; (with_reducible refine (H1.out _ G1.out).mono ?_); rintro e v2 ⟨a2x, c2x, rfl, _, _, q2, g2⟩; have L2 := Lib.hid q2; have G2 := Lib.hid (G1.out.trans g2); have BA := Lib.hid (BA.out.gr g2); have BB := Lib.hid (BB.out.gr g2); clear p0 p1 s0 s1; obtain ⟨p0, p1⟩ := BA.out; obtain ⟨s0, s1, _⟩ := BB.out; clear g2 q2)
      | (go_at_call 33; (with_reducible refine (H2.out _ G2.out).mono ?_); rintro e v3 ⟨a3x, c3x, rfl, _, _, q3, g3⟩; have L3 := Lib.hid q3; have G3 := Lib.hid (G2.out.trans g3); have BA := Lib.hid (BA.out.gr g3); have BB := Lib.hid (BB.out.gr g3); have L2 := Lib.hid (L2.out.gr g3); clear p0 p1 s0 s1; obtain ⟨p0, p1⟩ := BA.out; obtain ⟨s0, s1, _⟩ := BB.out; clear g3 q3)
      | (go_at_call 16; (with_reducible refine (SameInts_any _ _ _ _ _ F1 _ n1 L2.out L3.out).mono ?_); rintro e v4 ⟨rfl, g4⟩; have G4 := Lib.hid (G3.out.trans g4); have BA := Lib.hid (BA.out.gr g4); have BB := Lib.hid (BB.out.gr g4); clear p0 p1 s0 s1; obtain ⟨p0, p1⟩ := BA.out; obtain ⟨s0, s1, _⟩ := BB.out; clear g4)
      | (go_at_call 34; (with_reducible refine (H3.out _ G4.out).mono ?_); rintro e v5 ⟨a5x, c5x, rfl, _, _, q5, g5⟩; have L5 := Lib.hid q5; have G5 := Lib.hid (G4.out.trans g5); have BA := Lib.hid (BA.out.gr g5); have BB := Lib.hid (BB.out.gr g5); clear p0 p1 s0 s1; obtain ⟨p0, p1⟩ := BA.out; obtain ⟨s0, s1, _⟩ := BB.out; clear g5 q5)
      | (go_at_call 35; (with_reducible refine (H4.out _ G5.out).mono ?_); rintro e v6 ⟨a6x, c6x, rfl, _, _, q6, g6⟩; have L6 := Lib.hid q6; have G6 := Lib.hid (G5.out.trans g6); have BA := Lib.hid (BA.out.gr g6); have BB := Lib.hid (BB.out.gr g6); have L5 := Lib.hid (L5.out.gr g6); clear p0 p1 s0 s1; obtain ⟨p0, p1⟩ := BA.out; obtain ⟨s0, s1, _⟩ := BB.out; clear g6 q6)
      | (go_at_call 36; (with_reducible refine (H5.out _ G6.out).mono ?_); rintro e v7 ⟨rfl, g7⟩; have gg := g7.alloc (.cells #[.int .i64 X, .int .i64 Y] 26); obtain ⟨V7, hV7⟩ : ∃ V7, v7.alloc (.cells #[.int .i64 X, .int .i64 Y] 26) = V7 := ⟨_, rfl⟩; rw [hV7] at gg; have G7 := Lib.hid (G6.out.trans gg); have BA := Lib.hid (BA.out.gr gg); have BB := Lib.hid (BB.out.gr gg); have R7 := Lib.hid (show Box2 V7 v7.heap.size X Y by rw [← hV7]; exact Box2.new rfl); have L5 := Lib.hid (L5.out.gr gg); have L6 := Lib.hid (L6.out.gr gg); obtain ⟨x7, y7, _⟩ := R7.out; clear p0 p1 s0 s1; obtain ⟨p0, p1⟩ := BA.out; obtain ⟨s0, s1, _⟩ := BB.out; clear gg g7)
      | (go_at_call 37; (with_reducible refine (H6.out _ G7.out).mono ?_); rintro e v8 ⟨rfl, g8⟩; have gg := g8.alloc (.cells #[.int .i64 X, .int .i64 Y] 26); obtain ⟨V8, hV8⟩ : ∃ V8, v8.alloc (.cells #[.int .i64 X, .int .i64 Y] 26) = V8 := ⟨_, rfl⟩; rw [hV8] at gg; have G8 := Lib.hid (G7.out.trans gg); have BA := Lib.hid (BA.out.gr gg); have BB := Lib.hid (BB.out.gr gg); have R8 := Lib.hid (show Box2 V8 v8.heap.size X Y by rw [← hV8]; exact Box2.new rfl); have R7 := Lib.hid (R7.out.gr gg); clear x7 y7; obtain ⟨x7, y7, _⟩ := R7.out; have L5 := Lib.hid (L5.out.gr gg); have L6 := Lib.hid (L6.out.gr gg); obtain ⟨x8, y8, _⟩ := R8.out; clear p0 p1 s0 s1; obtain ⟨p0, p1⟩ := BA.out; obtain ⟨s0, s1, _⟩ := BB.out; clear gg g8)
      | (go_at_call 16; (with_reducible refine (SameInts_any _ _ _ _ _ F2 _ n2 L5.out L6.out).mono ?_); rintro e v10 ⟨rfl, g10⟩; have G10 := Lib.hid (G8.out.trans g10); have BA := Lib.hid (BA.out.gr g10); have BB := Lib.hid (BB.out.gr g10); have R7 := Lib.hid (R7.out.gr g10); clear x7 y7; obtain ⟨x7, y7, _⟩ := R7.out; have R8 := Lib.hid (R8.out.gr g10); clear x8 y8; obtain ⟨x8, y8, _⟩ := R8.out; clear p0 p1 s0 s1; obtain ⟨p0, p1⟩ := BA.out; obtain ⟨s0, s1, _⟩ := BB.out; clear g10)
      | (go_at_call 38; (with_reducible refine (H7.out _ G10.out).mono ?_); rintro e v11 ⟨a11x, c11x, rfl, _, _, q11, g11⟩; have L11 := Lib.hid q11; have G11 := Lib.hid (G10.out.trans g11); have BA := Lib.hid (BA.out.gr g11); have BB := Lib.hid (BB.out.gr g11); clear p0 p1 s0 s1; obtain ⟨p0, p1⟩ := BA.out; obtain ⟨s0, s1, _⟩ := BB.out; clear g11 q11)
      | (go_at_call 39; (with_reducible refine (H8.out _ G11.out).mono ?_); rintro e v12 ⟨a12x, c12x, rfl, _, _, q12, g12⟩; have L12 := Lib.hid q12; have G12 := Lib.hid (G11.out.trans g12); have BA := Lib.hid (BA.out.gr g12); have BB := Lib.hid (BB.out.gr g12); have L11 := Lib.hid (L11.out.gr g12); clear p0 p1 s0 s1; obtain ⟨p0, p1⟩ := BA.out; obtain ⟨s0, s1, _⟩ := BB.out; clear g12 q12)
      | (go_at_call 16; (with_reducible refine (SameInts_any _ _ _ _ _ F4 _ n4 L11.out L12.out).mono ?_); rintro e v13 ⟨rfl, g13⟩; have G13 := Lib.hid (G12.out.trans g13); have BA := Lib.hid (BA.out.gr g13); have BB := Lib.hid (BB.out.gr g13); clear p0 p1 s0 s1; obtain ⟨p0, p1⟩ := BA.out; obtain ⟨s0, s1, _⟩ := BB.out; clear g13)
      | (go_at_call 9; refine (Awake_any _).mono ?_; rintro e w9 ⟨rfl, g9⟩))
    go_ret
    exact ⟨rfl, G13.out.trans g9⟩

end Go.Proofs.YtohcnicadbpbbaaDoor
