/- Proved: WeighTwo returns true at all pairs of odds, and its arguments read afterwards as before. Conditions: none. -/
import Derived.Test.YtohcnicadbpbbaaWS
import Derived.Test.YtohcnicadbpbbaaWT
import Derived.Test.YtohcnicadbpbbaaWU
import Derived.Test.YtohcnicadbpbbaaWo
import Derived.ProofKit
import Derived.OpenShut
import Derived.ShutString
import Derived.ChangeOld
import Derived.Below
namespace Go.Proofs.Ytohcnicadbpbbaa.weighTwo
open Go.ChangeShapes Go.WideShapes Go.ChangeAt Go.RowKit Go.Firn
open Go.ChangeMaps (open_string shut_string)

theorem own : ownKnob Try.prog.godebug = none := by kernel_rfl
theorem laidOut : laidOutB Try.prog = true := by kernel_rfl
theorem vo_all {n : Nat} {f g : Nat → Int} (h : VO n n f g) (fz : ∀ i, n ≤ i → f i = 0) (gz : ∀ i, n ≤ i → g i = 0) : (∀ i, 0 ≤ f i) ∧ (∀ i, 0 ≤ g i) := by
  refine ⟨fun i => ?_, fun i => ?_⟩
  · rcases Nat.lt_or_ge i n with h1 | h1
    · exact (h.noise.ok i h1).1
    · rw [fz i h1]; exact Int.le_refl 0
  · rcases Nat.lt_or_ge i n with h1 | h1
    · exact (h.signal.ok i h1).1
    · rw [gz i h1]; exact Int.le_refl 0

set_option maxHeartbeats 8000000 in
set_option maxRecDepth 100000 in
theorem fits (a b a3 b3 : Option Addr) (n c d m c3 d3 : Nat) (f g u v : Nat → Int) (w : World) (hr : RdI w a n f) (hs : RdI w b n g) (ht : RdI w a3 m u) (hu : RdI w b3 m v) (hf : ∀ i, 0 ≤ f i) (hg : ∀ i, 0 ≤ g i) (kf : ∀ i, 0 ≤ u i) (kg : ∀ i, 0 ≤ v i) (V : VO n n f g) (V2 : VO m m u v) (hx : vO (n * m) (n * m) (pdQ f u n m) (pdQ g v n m) = true) :
    Calls Try.prog 4 #[.agg #[.slice a n c, .slice b n d], .agg #[.slice a3 m c3, .slice b3 m d3]] w (RetB true w) := by
  have n10 := V.noise.few
  have m10 := V2.noise.few
  have n1 := V.noise.one
  have m1 := V2.noise.one
  obtain ⟨X0, hX0⟩ : ∃ X0, (w.alloc (.cells #[.slice a n c, .slice b n d] 24)).alloc (.cells #[.slice a3 m c3, .slice b3 m d3] 24) = X0 := ⟨_, rfl⟩
  have G0 := Lib.hid (show Gr w X0 by rw [← hX0]; exact ((Gr.refl w).alloc _).alloc _)
  have BA := Lib.hid (show BoxO X0 w.heap.size (.slice a n c) (.slice b n d) by rw [← hX0]; exact (BoxO.new rfl).gr ((Gr.refl _).alloc _))
  have BB := Lib.hid (show BoxO X0 (w.heap.size + 1) (.slice a3 m c3) (.slice b3 m d3) by rw [← hX0]; exact BoxO.new (by simp))
  obtain ⟨p0, p1⟩ := BA.out
  obtain ⟨s0, s1⟩ := BB.out
  have HL := Lib.hid (fun w1 => Long_any a b n c n d w1)
  have HL2 := Lib.hid (fun w1 => Long_any a3 b3 m c3 m d3 w1)
  rw [lgO_false.2 ⟨by omega, by omega⟩] at HL HL2
  have HV := Lib.hid (fun w1 (k : Gr w w1) => refValid_any a b n c n d f g w1 (by omega) (by omega) (hr.gr k) (hs.gr k))
  have HV2 := Lib.hid (fun w1 (k : Gr w w1) => refValid_any a3 b3 m c3 m d3 u v w1 (by omega) (by omega) (ht.gr k) (hu.gr k))
  rw [vO_iff.2 V] at HV
  rw [vO_iff.2 V2] at HV2
  have HB := Lib.hid (fun w1 (k : Gr w w1) => Both_fit a b a3 b3 n c d m c3 d3 f g u v w1 (hr.gr k) (hs.gr k) (ht.gr k) (hu.gr k) V V2 hx)
  have N100 : n * m ≤ 100 := Nat.mul_le_mul n10 m10
  have q1 : wrap64 ((n : Int) * (m : Int)) = ((n * m : Nat) : Int) := by rw [← Int.natCast_mul]; exact IntWalk.wrap64_in _ (by omega)
  have q2 : IntKind.i64.wrap ((n : Int) * (m : Int)) = ((n * m : Nat) : Int) := by rw [← Int.natCast_mul]; exact IntWalk.i64_in _ (by omega)
  have M1 := Lib.hid (two_left hf hg kf kg n1 m1 V.noise.pos V.signal.pos V2.noise.pos V2.signal.pos)
  have M2 := Lib.hid (two_right hf hg kf kg n1 m1 V.noise.pos V.signal.pos V2.noise.pos V2.signal.pos)
  have HN1 := Lib.hid (fun w1 (k : Gr w w1) ax ay (cx cy : Nat) (rx : RdI w1 ax (n * m) (pdQ f u n m)) (ry : RdI w1 ay (n * m) (pdQ g v n m)) => notMore_yes a b ax ay n c d (n * m) cx cy f g _ _ w1 (hr.gr k) (hs.gr k) rx ry hf hg (pdQ_nonneg hf kf n m) (pdQ_nonneg hg kg n m) V (vO_iff.1 hx) M1.out)
  have HN2 := Lib.hid (fun w1 (k : Gr w w1) ax ay (cx cy : Nat) (rx : RdI w1 ax (n * m) (pdQ f u n m)) (ry : RdI w1 ay (n * m) (pdQ g v n m)) => notMore_yes a3 b3 ax ay m c3 d3 (n * m) cx cy u v _ _ w1 (ht.gr k) (hu.gr k) rx ry kf kg (pdQ_nonneg hf kf n m) (pdQ_nonneg hg kg n m) V2 (vO_iff.1 hx) M2.out)
  have HVX := Lib.hid (fun w1 ax ay (cx cy : Nat) (rx : RdI w1 ax (n * m) (pdQ f u n m)) (ry : RdI w1 ay (n * m) (pdQ g v n m)) => refValid_any ax ay (n * m) cx (n * m) cy _ _ w1 (by omega) (by omega) rx ry)
  rw [hx] at HVX
  clear hr hs ht hu hx V V2 hf hg kf kg M1 M2
  generalize pdQ f u n m = F at *
  generalize pdQ g v n m = G at *
  generalize n * m = NN at *
  go_enter Try.func4, Try.ntmps4
  go_wp2_with (first
    | (go_at_call 8; (with_reducible refine (HL.out _).mono ?_); rintro e W1 ⟨rfl, g1⟩; have G1 := Lib.hid (G0.out.trans g1); have BA := Lib.hid (BA.out.gr g1); have BB := Lib.hid (BB.out.gr g1); clear p0 p1 s0 s1; obtain ⟨p0, p1⟩ := BA.out; obtain ⟨s0, s1⟩ := BB.out; clear g1)
    | (go_at_call 8; (with_reducible refine (HL2.out _).mono ?_); rintro e W2 ⟨rfl, g1⟩; have G2 := Lib.hid (G1.out.trans g1); have BA := Lib.hid (BA.out.gr g1); have BB := Lib.hid (BB.out.gr g1); clear p0 p1 s0 s1; obtain ⟨p0, p1⟩ := BA.out; obtain ⟨s0, s1⟩ := BB.out; clear g1)
    | (go_at_call 15; (with_reducible refine (HV.out _ G2.out).mono ?_); rintro e W3 ⟨rfl, g1⟩; have G3 := Lib.hid (G2.out.trans g1); have BA := Lib.hid (BA.out.gr g1); have BB := Lib.hid (BB.out.gr g1); clear p0 p1 s0 s1; obtain ⟨p0, p1⟩ := BA.out; obtain ⟨s0, s1⟩ := BB.out; clear g1)
    | (go_at_call 15; (with_reducible refine (HV2.out _ G3.out).mono ?_); rintro e W4 ⟨rfl, g1⟩; have G4 := Lib.hid (G3.out.trans g1); have BA := Lib.hid (BA.out.gr g1); have BB := Lib.hid (BB.out.gr g1); clear p0 p1 s0 s1; obtain ⟨p0, p1⟩ := BA.out; obtain ⟨s0, s1⟩ := BB.out; clear g1)
    | (go_at_call 16; (with_reducible refine (HB.out _ G4.out).mono ?_); rintro e v5 ⟨ax, cx, ay, cy, rfl, r5, q5, g5⟩; have gg := g5.alloc (.cells #[.slice ax NN cx, .slice ay NN cy] 24); obtain ⟨V5, hV5⟩ : ∃ V5, v5.alloc (.cells #[.slice ax NN cx, .slice ay NN cy] 24) = V5 := ⟨_, rfl⟩; rw [hV5] at gg; have G5 := Lib.hid (G4.out.trans gg); have BX := Lib.hid (show Box2v V5 v5.heap.size (.slice ax NN cx) (.slice ay NN cy) by rw [← hV5]; exact Box2v.new rfl); have RX := Lib.hid (show RdI V5 ax NN F by rw [← hV5]; exact r5.gr ((Gr.refl _).alloc _)); have SX := Lib.hid (show RdI V5 ay NN G by rw [← hV5]; exact q5.gr ((Gr.refl _).alloc _)); have BA := Lib.hid (BA.out.gr gg); have BB := Lib.hid (BB.out.gr gg); clear p0 p1 s0 s1; obtain ⟨p0, p1⟩ := BA.out; obtain ⟨s0, s1⟩ := BB.out; obtain ⟨x0, x1, _⟩ := BX.out; clear gg g5 r5 q5)
    | (go_at_call 15; (with_reducible refine (HVX.out _ _ _ _ _ RX.out SX.out).mono ?_); rintro e W6 ⟨rfl, g1⟩; have G6 := Lib.hid (G5.out.trans g1); have BA := Lib.hid (BA.out.gr g1); have BB := Lib.hid (BB.out.gr g1); have BX := Lib.hid (BX.out.gr g1); have RX := Lib.hid (RX.out.gr g1); have SX := Lib.hid (SX.out.gr g1); clear x0 x1; obtain ⟨x0, x1, _⟩ := BX.out; clear p0 p1 s0 s1; obtain ⟨p0, p1⟩ := BA.out; obtain ⟨s0, s1⟩ := BB.out; clear g1)
    | (go_at_call 17; (with_reducible refine (HN1.out _ G6.out _ _ _ _ RX.out SX.out).mono ?_); rintro e W7 ⟨rfl, g1⟩; have G7 := Lib.hid (G6.out.trans g1); have BA := Lib.hid (BA.out.gr g1); have BB := Lib.hid (BB.out.gr g1); have BX := Lib.hid (BX.out.gr g1); have RX := Lib.hid (RX.out.gr g1); have SX := Lib.hid (SX.out.gr g1); clear x0 x1; obtain ⟨x0, x1, _⟩ := BX.out; clear p0 p1 s0 s1; obtain ⟨p0, p1⟩ := BA.out; obtain ⟨s0, s1⟩ := BB.out; clear g1)
    | (go_at_call 17; (with_reducible refine (HN2.out _ G7.out _ _ _ _ RX.out SX.out).mono ?_); rintro e W8 ⟨rfl, g1⟩; have G8 := Lib.hid (G7.out.trans g1); have BA := Lib.hid (BA.out.gr g1); have BB := Lib.hid (BB.out.gr g1); have BX := Lib.hid (BX.out.gr g1); have RX := Lib.hid (RX.out.gr g1); have SX := Lib.hid (SX.out.gr g1); clear x0 x1; obtain ⟨x0, x1, _⟩ := BX.out; clear p0 p1 s0 s1; obtain ⟨p0, p1⟩ := BA.out; obtain ⟨s0, s1⟩ := BB.out; clear g1)
    | (go_at_call 9; refine (Awake_any _).mono ?_; rintro e w6 ⟨rfl, g6⟩))
  go_ret
  exact ⟨rfl, G8.out.trans g6⟩

set_option maxHeartbeats 8000000 in
set_option maxRecDepth 100000 in
theorem fails (a b a3 b3 : Option Addr) (n c d m c3 d3 : Nat) (f g u v : Nat → Int) (w : World) (hr : RdI w a n f) (hs : RdI w b n g) (ht : RdI w a3 m u) (hu : RdI w b3 m v) (V : VO n n f g) (V2 : VO m m u v) (hx : vO (n * m) (n * m) (pdQ f u n m) (pdQ g v n m) = false) :
    Calls Try.prog 4 #[.agg #[.slice a n c, .slice b n d], .agg #[.slice a3 m c3, .slice b3 m d3]] w (RetB true w) := by
  have n10 := V.noise.few
  have m10 := V2.noise.few
  have n1 := V.noise.one
  have m1 := V2.noise.one
  obtain ⟨X0, hX0⟩ : ∃ X0, (w.alloc (.cells #[.slice a n c, .slice b n d] 24)).alloc (.cells #[.slice a3 m c3, .slice b3 m d3] 24) = X0 := ⟨_, rfl⟩
  have G0 := Lib.hid (show Gr w X0 by rw [← hX0]; exact ((Gr.refl w).alloc _).alloc _)
  have BA := Lib.hid (show BoxO X0 w.heap.size (.slice a n c) (.slice b n d) by rw [← hX0]; exact (BoxO.new rfl).gr ((Gr.refl _).alloc _))
  have BB := Lib.hid (show BoxO X0 (w.heap.size + 1) (.slice a3 m c3) (.slice b3 m d3) by rw [← hX0]; exact BoxO.new (by simp))
  obtain ⟨p0, p1⟩ := BA.out
  obtain ⟨s0, s1⟩ := BB.out
  have HL := Lib.hid (fun w1 => Long_any a b n c n d w1)
  have HL2 := Lib.hid (fun w1 => Long_any a3 b3 m c3 m d3 w1)
  rw [lgO_false.2 ⟨by omega, by omega⟩] at HL HL2
  have HV := Lib.hid (fun w1 (k : Gr w w1) => refValid_any a b n c n d f g w1 (by omega) (by omega) (hr.gr k) (hs.gr k))
  have HV2 := Lib.hid (fun w1 (k : Gr w w1) => refValid_any a3 b3 m c3 m d3 u v w1 (by omega) (by omega) (ht.gr k) (hu.gr k))
  rw [vO_iff.2 V] at HV
  rw [vO_iff.2 V2] at HV2
  have HB := Lib.hid (fun w1 (k : Gr w w1) => Both_none a b a3 b3 n c d m c3 d3 f g u v w1 (hr.gr k) (hs.gr k) (ht.gr k) (hu.gr k) V V2 hx)
  clear hr hs ht hu hx V V2
  go_enter Try.func4, Try.ntmps4
  go_wp2_with (first
    | (go_at_call 8; (with_reducible refine (HL.out _).mono ?_); rintro e W1 ⟨rfl, g1⟩; have G1 := Lib.hid (G0.out.trans g1); have BA := Lib.hid (BA.out.gr g1); have BB := Lib.hid (BB.out.gr g1); clear p0 p1 s0 s1; obtain ⟨p0, p1⟩ := BA.out; obtain ⟨s0, s1⟩ := BB.out; clear g1)
    | (go_at_call 8; (with_reducible refine (HL2.out _).mono ?_); rintro e W2 ⟨rfl, g1⟩; have G2 := Lib.hid (G1.out.trans g1); have BA := Lib.hid (BA.out.gr g1); have BB := Lib.hid (BB.out.gr g1); clear p0 p1 s0 s1; obtain ⟨p0, p1⟩ := BA.out; obtain ⟨s0, s1⟩ := BB.out; clear g1)
    | (go_at_call 15; (with_reducible refine (HV.out _ G2.out).mono ?_); rintro e W3 ⟨rfl, g1⟩; have G3 := Lib.hid (G2.out.trans g1); have BA := Lib.hid (BA.out.gr g1); have BB := Lib.hid (BB.out.gr g1); clear p0 p1 s0 s1; obtain ⟨p0, p1⟩ := BA.out; obtain ⟨s0, s1⟩ := BB.out; clear g1)
    | (go_at_call 15; (with_reducible refine (HV2.out _ G3.out).mono ?_); rintro e W4 ⟨rfl, g1⟩; have G4 := Lib.hid (G3.out.trans g1); have BA := Lib.hid (BA.out.gr g1); have BB := Lib.hid (BB.out.gr g1); clear p0 p1 s0 s1; obtain ⟨p0, p1⟩ := BA.out; obtain ⟨s0, s1⟩ := BB.out; clear g1)
    | (go_at_call 16; (with_reducible refine (HB.out _ G4.out).mono ?_); rintro e v5 ⟨ax, cx, ay, cy, rfl, r5, q5, g5⟩; have gg := g5.alloc (.cells #[.slice ax 0 cx, .slice ay 0 cy] 24); obtain ⟨V5, hV5⟩ : ∃ V5, v5.alloc (.cells #[.slice ax 0 cx, .slice ay 0 cy] 24) = V5 := ⟨_, rfl⟩; rw [hV5] at gg; have G5 := Lib.hid (G4.out.trans gg); have BX := Lib.hid (show Box2v V5 v5.heap.size (.slice ax 0 cx) (.slice ay 0 cy) by rw [← hV5]; exact Box2v.new rfl); have BA := Lib.hid (BA.out.gr gg); have BB := Lib.hid (BB.out.gr gg); clear p0 p1 s0 s1; obtain ⟨p0, p1⟩ := BA.out; obtain ⟨s0, s1⟩ := BB.out; obtain ⟨x0, x1, _⟩ := BX.out; clear gg g5 r5 q5)
    | (go_at_call 9; refine (Awake_any _).mono ?_; rintro e w6 ⟨rfl, g6⟩))
  go_ret
  exact ⟨rfl, G5.out.trans g6⟩

set_option maxHeartbeats 8000000 in
set_option maxRecDepth 100000 in
theorem walk (a b : Option Addr) (n c m d : Nat) (f g : Nat → Int) (a3 b3 : Option Addr) (n3 c3 m3 d3 : Nat) (u v : Nat → Int) (w : World) (_hn : n ≤ 9223372036854775807) (_hm : m ≤ 9223372036854775807) (_nc : n ≤ c) (_cl : c ≤ maxLen) (_md : m ≤ d) (_dl : d ≤ maxLen) (fz : ∀ i, n ≤ i → f i = 0) (gz : ∀ i, m ≤ i → g i = 0) (hr : RdI w a n f) (hs : RdI w b m g) (_hn3 : n3 ≤ 9223372036854775807) (_hm3 : m3 ≤ 9223372036854775807) (_nc3 : n3 ≤ c3) (_cl3 : c3 ≤ maxLen) (_md3 : m3 ≤ d3) (_dl3 : d3 ≤ maxLen) (fz3 : ∀ i, n3 ≤ i → u i = 0) (gz3 : ∀ i, m3 ≤ i → v i = 0) (ht : RdI w a3 n3 u) (hu : RdI w b3 m3 v) :
    Calls Try.prog 4 #[.agg #[.slice a n c, .slice b m d], .agg #[.slice a3 n3 c3, .slice b3 m3 d3]] w (RetB true w) := by
  obtain ⟨X0, hX0⟩ : ∃ X0, (w.alloc (.cells #[.slice a n c, .slice b m d] 24)).alloc (.cells #[.slice a3 n3 c3, .slice b3 m3 d3] 24) = X0 := ⟨_, rfl⟩
  have G0 := Lib.hid (show Gr w X0 by rw [← hX0]; exact ((Gr.refl w).alloc _).alloc _)
  have BA := Lib.hid (show BoxO X0 w.heap.size (.slice a n c) (.slice b m d) by rw [← hX0]; exact (BoxO.new rfl).gr ((Gr.refl _).alloc _))
  have BB := Lib.hid (show BoxO X0 (w.heap.size + 1) (.slice a3 n3 c3) (.slice b3 m3 d3) by rw [← hX0]; exact BoxO.new (by simp))
  obtain ⟨p0, p1⟩ := BA.out
  obtain ⟨s0, s1⟩ := BB.out
  have HL := Lib.hid (fun w1 => Long_any a b n c m d w1)
  have HL2 := Lib.hid (fun w1 => Long_any a3 b3 n3 c3 m3 d3 w1)
  clear _hn _hm _nc _cl _md _dl _hn3 _hm3 _nc3 _cl3 _md3 _dl3
  cases hl : lgO n m with
  | true =>
    rw [hl] at HL
    clear hr hs hl ht hu fz gz fz3 gz3
    go_enter Try.func4, Try.ntmps4
    go_wp2_with (first
      | (go_at_call 8; (with_reducible refine (HL.out _).mono ?_); rintro e W1 ⟨rfl, g1⟩; have G1 := Lib.hid (G0.out.trans g1); have BA := Lib.hid (BA.out.gr g1); have BB := Lib.hid (BB.out.gr g1); clear p0 p1 s0 s1; obtain ⟨p0, p1⟩ := BA.out; obtain ⟨s0, s1⟩ := BB.out; clear g1)
      | (go_at_call 9; refine (Awake_any _).mono ?_; rintro e w6 ⟨rfl, g6⟩))
    go_ret
    exact ⟨rfl, G1.out.trans g6⟩
  | false =>
    rw [hl] at HL
    have l60 := lgO_false.1 hl
    cases hl2 : lgO n3 m3 with
    | true =>
      rw [hl2] at HL2
      clear hr hs hl ht hu hl2 l60 fz gz fz3 gz3
      go_enter Try.func4, Try.ntmps4
      go_wp2_with (first
        | (go_at_call 8; (with_reducible refine (HL.out _).mono ?_); rintro e W1 ⟨rfl, g1⟩; have G1 := Lib.hid (G0.out.trans g1); have BA := Lib.hid (BA.out.gr g1); have BB := Lib.hid (BB.out.gr g1); clear p0 p1 s0 s1; obtain ⟨p0, p1⟩ := BA.out; obtain ⟨s0, s1⟩ := BB.out; clear g1)
        | (go_at_call 8; (with_reducible refine (HL2.out _).mono ?_); rintro e W2 ⟨rfl, g1⟩; have G2 := Lib.hid (G1.out.trans g1); have BA := Lib.hid (BA.out.gr g1); have BB := Lib.hid (BB.out.gr g1); clear p0 p1 s0 s1; obtain ⟨p0, p1⟩ := BA.out; obtain ⟨s0, s1⟩ := BB.out; clear g1)
        | (go_at_call 9; refine (Awake_any _).mono ?_; rintro e w6 ⟨rfl, g6⟩))
      go_ret
      exact ⟨rfl, G2.out.trans g6⟩
    | false =>
      rw [hl2] at HL2
      have l61 := lgO_false.1 hl2
      have HV := Lib.hid (fun w1 (k : Gr w w1) => refValid_any a b n c m d f g w1 (by omega) (by omega) (hr.gr k) (hs.gr k))
      have HV2 := Lib.hid (fun w1 (k : Gr w w1) => refValid_any a3 b3 n3 c3 m3 d3 u v w1 (by omega) (by omega) (ht.gr k) (hu.gr k))
      cases hv : vO n m f g with
      | false =>
        rw [hv] at HV
        clear hr hs hl ht hu hl2 l60 l61 hv fz gz fz3 gz3
        go_enter Try.func4, Try.ntmps4
        go_wp2_with (first
          | (go_at_call 8; (with_reducible refine (HL.out _).mono ?_); rintro e W1 ⟨rfl, g1⟩; have G1 := Lib.hid (G0.out.trans g1); have BA := Lib.hid (BA.out.gr g1); have BB := Lib.hid (BB.out.gr g1); clear p0 p1 s0 s1; obtain ⟨p0, p1⟩ := BA.out; obtain ⟨s0, s1⟩ := BB.out; clear g1)
          | (go_at_call 8; (with_reducible refine (HL2.out _).mono ?_); rintro e W2 ⟨rfl, g1⟩; have G2 := Lib.hid (G1.out.trans g1); have BA := Lib.hid (BA.out.gr g1); have BB := Lib.hid (BB.out.gr g1); clear p0 p1 s0 s1; obtain ⟨p0, p1⟩ := BA.out; obtain ⟨s0, s1⟩ := BB.out; clear g1)
          | (go_at_call 15; (with_reducible refine (HV.out _ G2.out).mono ?_); rintro e W3 ⟨rfl, g1⟩; have G3 := Lib.hid (G2.out.trans g1); have BA := Lib.hid (BA.out.gr g1); have BB := Lib.hid (BB.out.gr g1); clear p0 p1 s0 s1; obtain ⟨p0, p1⟩ := BA.out; obtain ⟨s0, s1⟩ := BB.out; clear g1)
          | (go_at_call 9; refine (Awake_any _).mono ?_; rintro e w6 ⟨rfl, g6⟩))
        go_ret
        exact ⟨rfl, G3.out.trans g6⟩
      | true =>
        rw [hv] at HV
        cases hv2 : vO n3 m3 u v with
        | false =>
          rw [hv2] at HV2
          clear hr hs hl ht hu hl2 l60 l61 hv hv2 fz gz fz3 gz3
          go_enter Try.func4, Try.ntmps4
          go_wp2_with (first
            | (go_at_call 8; (with_reducible refine (HL.out _).mono ?_); rintro e W1 ⟨rfl, g1⟩; have G1 := Lib.hid (G0.out.trans g1); have BA := Lib.hid (BA.out.gr g1); have BB := Lib.hid (BB.out.gr g1); clear p0 p1 s0 s1; obtain ⟨p0, p1⟩ := BA.out; obtain ⟨s0, s1⟩ := BB.out; clear g1)
            | (go_at_call 8; (with_reducible refine (HL2.out _).mono ?_); rintro e W2 ⟨rfl, g1⟩; have G2 := Lib.hid (G1.out.trans g1); have BA := Lib.hid (BA.out.gr g1); have BB := Lib.hid (BB.out.gr g1); clear p0 p1 s0 s1; obtain ⟨p0, p1⟩ := BA.out; obtain ⟨s0, s1⟩ := BB.out; clear g1)
            | (go_at_call 15; (with_reducible refine (HV.out _ G2.out).mono ?_); rintro e W3 ⟨rfl, g1⟩; have G3 := Lib.hid (G2.out.trans g1); have BA := Lib.hid (BA.out.gr g1); have BB := Lib.hid (BB.out.gr g1); clear p0 p1 s0 s1; obtain ⟨p0, p1⟩ := BA.out; obtain ⟨s0, s1⟩ := BB.out; clear g1)
            | (go_at_call 15; (with_reducible refine (HV2.out _ G3.out).mono ?_); rintro e W4 ⟨rfl, g1⟩; have G4 := Lib.hid (G3.out.trans g1); have BA := Lib.hid (BA.out.gr g1); have BB := Lib.hid (BB.out.gr g1); clear p0 p1 s0 s1; obtain ⟨p0, p1⟩ := BA.out; obtain ⟨s0, s1⟩ := BB.out; clear g1)
            | (go_at_call 9; refine (Awake_any _).mono ?_; rintro e w6 ⟨rfl, g6⟩))
          go_ret
          exact ⟨rfl, G4.out.trans g6⟩
        | true =>
          have V := vO_iff.1 hv
          obtain rfl := V.same
          have V2 := vO_iff.1 hv2
          obtain rfl := V2.same
          obtain ⟨hf, hg⟩ := vo_all V fz gz
          obtain ⟨kf, kg⟩ := vo_all V2 fz3 gz3
          cases hx : vO (n * n3) (n * n3) (pdQ f u n n3) (pdQ g v n n3) with
          | true => exact fits a b a3 b3 n c d n3 c3 d3 f g u v w hr hs ht hu hf hg kf kg V V2 hx
          | false => exact fails a b a3 b3 n c d n3 c3 d3 f g u v w hr hs ht hu V V2 hx
set_option maxRecDepth 100000 in
theorem lifted (os : Os) (started : os.Started) (H : Type) (enc : TypeId × Value → H) :
    ReturnsInHanded {} Try.checked os 4 .any (Rows.weighTwoSpec.pre6 enc Try.prog Try.f4 Rows.weighTwoRow.domain false) (Rows.weighTwoSpec.post enc Try.prog Try.f4 false true false false) := by
  refine returnsInHanded_of_change (C := Try.checked) own started (by kernel_rfl) Try.func4
    (ChangeSpec.witness6 (enc := enc) (C := Try.checked) false ⟨#[], #[.agg #[.slice none 0 0, .slice none 0 0], .agg #[.slice none 0 0, .slice none 0 0]], []⟩ 8 (by kernel_rfl) (by kernel_rfl) (by kernel_rfl) (by kernel_rfl)) ?_
  intro W base args ds gs before hval0 hW hcnd _
  have hval : ∀ (j : Nat) t v, Try.f4.params[j]? = some t → args[j]? = some v → Value.okWide Try.prog W .any base t v := hval0
  have hW' := hW
  obtain ⟨p, q, hA0, hV, rfl, hfz, hnd⟩ := hW
  have hA : DataW.TrodAll enc Try.prog W 0 (fun _ => true) true Try.f4.params.toList args.toList ds p := hA0
  rw [Try.params4] at hA hval
  obtain ⟨v0, vs0, d0, ds0, p0, q0, hargs, rfl, rfl, h0, r0⟩ := trodAll_cons hA
  obtain ⟨v1, vs1, d1, ds1, p1, q1, rfl, rfl, rfl, h1, r1⟩ := trodAll_cons r0
  obtain ⟨rfl, rfl, rfl⟩ := trodAll_nil r1
  obtain rfl : args = #[v0, v1] := by cases args; simp_all
  obtain ⟨rfl, rfl⟩ := trodVars_none hV
  have k0 := h0
  have lt0 : ∀ x ∈ p0, x.block < W.heap.size := by obtain ⟨m, hm⟩ := k0; exact DataW.trod_lt m _ _ _ hm
  obtain ⟨a0, n0, c0, z0, b0, m0, e0, y0, rfl, wa0, wb0⟩ := open_two Try.underlying24 (by kernel_rfl) (by kernel_rfl) rfl rfl Try.underlying22 Try.underlying3 (by kernel_rfl) (hval 0 24 v0 rfl rfl) h0
  obtain ⟨hn0, nc0, cl0, f0, fz0, fr0⟩ := wa0.clip
  obtain ⟨hm0, md0, dl0, g0, gz0, gr0⟩ := wb0.clip
  have k1 := h1
  have lt1 : ∀ x ∈ p1, x.block < W.heap.size := by obtain ⟨m, hm⟩ := k1; exact DataW.trod_lt m _ _ _ hm
  obtain ⟨a1, n1, c1, z1, b1, m1, e1, y1, rfl, wa1, wb1⟩ := open_two Try.underlying24 (by kernel_rfl) (by kernel_rfl) rfl rfl Try.underlying22 Try.underlying3 (by kernel_rfl) (hval 1 24 v1 rfl rfl) h1
  obtain ⟨hn1, nc1, cl1, f1, fz1, fr1⟩ := wa1.clip
  obtain ⟨hm1, md1, dl1, g1, gz1, gr1⟩ := wb1.clip
  clear hA0 hval0
  refine (walk a0 b0 n0 c0 m0 e0 f0 g0 a1 b1 n1 c1 m1 e1 f1 g1 W hn0 hm0 nc0 cl0 md0 dl0 fz0 gz0 fr0 gr0 hn1 hm1 nc1 cl1 md1 dl1 fz1 gz1 fr1 gr1).mono fun e W' ⟨he, bel⟩ => ?_
  subst he
  exact ⟨_, rfl, _, _, _, [], _, [], hW', trodAll_mk1 (shut_bool Try.underlying4 _), (trodAll_cons_mk (Below.trod laidOut (by kernel_rfl) (of_decide_eq_true (by kernel_rfl)) k0 bel lt0) (trodAll_cons_mk (Below.trod laidOut (by kernel_rfl) (of_decide_eq_true (by kernel_rfl)) k1 bel lt1) trodAll_mk0)), rfl, bel.frame _, fun h => by cases h⟩

theorem over : Rows.weighTwoRow.holds Try.pinned (OpenSpec.ofChange Rows.weighTwoSpec) :=
  OpenClaim.holds_of_wide 4 Try.f4 rfl rfl rfl rfl rfl rfl rfl ⟨rfl, rfl, rfl, rfl, rfl⟩ rfl rfl rfl rfl rfl (by kernel_rfl) Try.func4 (by kernel_rfl)
    (of_decide_eq_true (by kernel_rfl)) (by unfold Func.isWrapper; first | (rw [if_pos (by decide +kernel)]; kernel_rfl) | (rw [if_neg (by decide +kernel)]; exact ⟨rfl, rfl⟩))
    (fun os started H enc _ => lifted os started H enc)

/-- The statement. -/
theorem proved : Rows.WeighTwoSaid := over
end Go.Proofs.Ytohcnicadbpbbaa.weighTwo
