/- Proved: WeighCurves returns true at all odds, and its argument reads afterwards as before. Conditions: none. -/
import Derived.Test.YtohcnicadbpbbaaWK
import Derived.Test.YtohcnicadbpbbaaWo
import Derived.ProofKit
import Derived.OpenShut
import Derived.ShutString
import Derived.ChangeOld
import Derived.Below
import Derived.ChangeKeysEq
namespace Go.Proofs.Ytohcnicadbpbbaa
open Go.RowKit Go.Firn

/-- Arrays of two ratios that are the same. -/
theorem eq39 (A B C D : Int) (w : World) : (Op.equalIn 10000 39 (.agg #[.int .i64 A, .int .i64 B, .int .i64 C, .int .i64 D]) (.agg #[.int .i64 A, .int .i64 B, .int .i64 C, .int .i64 D])).run Try.prog w = .ok true w := by
  obtain ⟨i, hi⟩ : ∃ i, Try.prog.info? 28 = some i := Option.isSome_iff_exists.1 (by kernel_rfl)
  have e := run_equalIn_array (P := Try.prog) w 9999 (t := 39) (e := 28) (n := 2) (i := i) #[.int .i64 A, .int .i64 B, .int .i64 C, .int .i64 D] #[.int .i64 A, .int .i64 B, .int .i64 C, .int .i64 D] Try.underlying39 hi
  refine e.trans ?_
  have r2 : List.range 2 = [0, 1] := rfl
  have c2 : Try.prog.cellsOf 28 = 2 := by kernel_rfl
  rw [r2, c2]
  simp only [Op.eqItems]
  go_simp

theorem rN_scale {x y k : Int} (hk : 0 < k) (hy : 0 < y) : rN (k * x) (k * y) = rN x y ∧ rD (k * x) (k * y) = rD x y := by
  have e : (Int.gcd (k * x) (k * y) : Int) = k * (Int.gcd x y : Int) := by
    rw [Int.gcd_mul_left]
    have : ((k.natAbs : Nat) : Int) = k := by omega
    rw [Int.natCast_mul, this]
  have g0 := gcd_pos x hy
  unfold rN rD
  rw [e]
  exact ⟨Int.mul_ediv_mul_of_pos _ _ hk, Int.mul_ediv_mul_of_pos _ _ hk⟩

section
variable {a b : Option Addr} {n c m d : Nat} {f g : Nat → Int} {w : World}
/-- The program and the reference tell the same ratio. -/
def Both2 (F G : Nat) (o : Value) (w : World) : Prop := ∃ P Q E : Int, (∀ w1, Gr w w1 → Calls Try.prog F #[o] w1 (RetRE P Q E w1)) ∧ (∀ w1, Gr w w1 → Calls Try.prog G #[o] w1 (RetRE P Q E w1))

theorem vo_all (h : VO n n f g) (fz : ∀ i, n ≤ i → f i = 0) (gz : ∀ i, n ≤ i → g i = 0) : (∀ i, 0 ≤ f i) ∧ (∀ i, 0 ≤ g i) := by
  refine ⟨fun i => ?_, fun i => ?_⟩
  · rcases Nat.lt_or_ge i n with h1 | h1
    · exact (h.noise.ok i h1).1
    · rw [fz i h1]; exact Int.le_refl 0
  · rcases Nat.lt_or_ge i n with h1 | h1
    · exact (h.signal.ok i h1).1
    · rw [gz i h1]; exact Int.le_refl 0

theorem area_both (hn : n ≤ 60) (hm : m ≤ 60) (fz : ∀ i, n ≤ i → f i = 0) (gz : ∀ i, m ≤ i → g i = 0) (hr : RdI w a n f) (hs : RdI w b m g) : Both2 20 21 (.agg #[.slice a n c, .slice b m d]) w := by
  cases hv : vO n m f g with
  | false => exact ⟨0, 0, 70, fun w1 k => Area_no a b n c m d f g w1 (by omega) (by omega) (hr.gr k) (hs.gr k) hv, fun w1 k => refArea_no a b n c m d f g w1 (by omega) (by omega) (hr.gr k) (hs.gr k) hv⟩
  | true =>
    have V := vO_iff.1 hv
    obtain rfl := V.same
    obtain ⟨hf, hg⟩ := vo_all V fz gz
    refine ⟨_, _, 0, fun w1 k => Area_ok a b n c d f g w1 (hr.gr k) (hs.gr k) hf hg V, fun w1 k => ?_⟩
    have e : 2 * sm f n * sm g n = 2 * sm g n * sm f n := by rw [Int.mul_assoc, Int.mul_assoc, Int.mul_comm (sm f n)]
    rw [e]
    exact refArea_ok a b n c d f g w1 (hr.gr k) (hs.gr k) hf hg V
theorem pairs_both (hn : n ≤ 60) (hm : m ≤ 60) (fz : ∀ i, n ≤ i → f i = 0) (gz : ∀ i, m ≤ i → g i = 0) (hr : RdI w a n f) (hs : RdI w b m g) : Both2 22 23 (.agg #[.slice a n c, .slice b m d]) w := by
  cases hv : vO n m f g with
  | false => exact ⟨0, 0, 70, fun w1 k => Pairs_no a b n c m d f g w1 (by omega) (by omega) (hr.gr k) (hs.gr k) hv, fun w1 k => refPairs_no a b n c m d f g w1 (by omega) (by omega) (hr.gr k) (hs.gr k) hv⟩
  | true =>
    have V := vO_iff.1 hv
    obtain rfl := V.same
    obtain ⟨hf, hg⟩ := vo_all V fz gz
    refine ⟨_, _, 0, fun w1 k => Pairs_ok a b n c d f g w1 (hr.gr k) (hs.gr k) hf hg V, fun w1 k => ?_⟩
    have e : 2 * sm f n * sm g n = 2 * sm g n * sm f n := by rw [Int.mul_assoc, Int.mul_assoc, Int.mul_comm (sm f n)]
    rw [e]
    exact refPairs_ok a b n c d f g w1 (hr.gr k) (hs.gr k) hf hg V
theorem apart_both (hn : n ≤ 60) (hm : m ≤ 60) (fz : ∀ i, n ≤ i → f i = 0) (gz : ∀ i, m ≤ i → g i = 0) (hr : RdI w a n f) (hs : RdI w b m g) : Both2 24 25 (.agg #[.slice a n c, .slice b m d]) w := by
  cases hv : vO n m f g with
  | false => exact ⟨0, 0, 70, fun w1 k => Apart_no a b n c m d f g w1 (by omega) (by omega) (hr.gr k) (hs.gr k) hv, fun w1 k => refApart_no a b n c m d f g w1 (by omega) (by omega) (hr.gr k) (hs.gr k) hv⟩
  | true =>
    have V := vO_iff.1 hv
    obtain rfl := V.same
    obtain ⟨hf, hg⟩ := vo_all V fz gz
    refine ⟨_, _, 0, fun w1 k => Apart_ok a b n c d f g w1 (hr.gr k) (hs.gr k) hf hg V, fun w1 k => ?_⟩
    have s := rN_scale (x := apP f g n) (y := sm f n * sm g n) (k := 2) (by omega) (Int.mul_pos V.noise.pos V.signal.pos)
    have e : 2 * (sm f n * sm g n) = 2 * sm g n * sm f n := by rw [Int.mul_assoc, Int.mul_comm (sm f n)]
    rw [← ap_two, e] at s
    rw [← s.1, ← s.2]
    exact refApart_ok a b n c d f g w1 (hr.gr k) (hs.gr k) hf hg V
theorem curve_both (hn : n ≤ 60) (hm : m ≤ 60) (fz : ∀ i, n ≤ i → f i = 0) (gz : ∀ i, m ≤ i → g i = 0) (hr : RdI w a n f) (hs : RdI w b m g) : ∃ (k : Nat) (A B C D : Nat → Int) (E : Int), k ≤ 100 ∧ (∀ w1, Gr w w1 → Calls Try.prog 18 #[.agg #[.slice a n c, .slice b m d]] w1 (RetQ k A B C D E w1)) ∧ (∀ w1, Gr w w1 → Calls Try.prog 19 #[.agg #[.slice a n c, .slice b m d]] w1 (RetQ k A B C D E w1)) := by
  cases hv : vO n m f g with
  | false => exact ⟨0, _, _, _, _, 70, by omega, fun w1 k => Curve_no a b n c m d f g w1 (by omega) (by omega) (hr.gr k) (hs.gr k) hv, fun w1 k => refCurve_no a b n c m d f g w1 (by omega) (by omega) (hr.gr k) (hs.gr k) hv⟩
  | true =>
    have V := vO_iff.1 hv
    obtain rfl := V.same
    obtain ⟨hf, hg⟩ := vo_all V fz gz
    exact ⟨n + 1, _, _, _, _, 0, by omega, fun w1 k => Curve_ok a b n c d f g w1 (hr.gr k) (hs.gr k) hf hg V, fun w1 k => refCurve_ok a b n c d f g w1 (hr.gr k) (hs.gr k) hf hg V⟩
end

end Go.Proofs.Ytohcnicadbpbbaa
namespace Go.Proofs.Ytohcnicadbpbbaa.weighCurves
open Go.ChangeShapes Go.WideShapes Go.ChangeAt Go.RowKit Go.Firn
open Go.ChangeMaps (open_string shut_string)

theorem own : ownKnob Try.prog.godebug = none := by kernel_rfl
theorem laidOut : laidOutB Try.prog = true := by kernel_rfl

set_option maxHeartbeats 8000000 in
set_option maxRecDepth 100000 in
theorem walk (a b : Option Addr) (n c m d : Nat) (f g : Nat → Int) (w : World) (_hn : n ≤ 9223372036854775807) (_hm : m ≤ 9223372036854775807) (_nc : n ≤ c) (_cl : c ≤ maxLen) (_md : m ≤ d) (_dl : d ≤ maxLen) (fz : ∀ i, n ≤ i → f i = 0) (gz : ∀ i, m ≤ i → g i = 0) (hr : RdI w a n f) (hs : RdI w b m g) :
    Calls Try.prog 5 #[.agg #[.slice a n c, .slice b m d]] w (RetB true w) := by
  obtain ⟨X0, hX0⟩ : ∃ X0, w.alloc (.cells #[.slice a n c, .slice b m d] 24) = X0 := ⟨_, rfl⟩
  have GX := Lib.hid (show Gr w X0 by rw [← hX0]; exact (Gr.refl w).alloc _)
  have BX0 := Lib.hid (show BoxO X0 w.heap.size (.slice a n c) (.slice b m d) by rw [← hX0]; exact BoxO.new rfl)
  obtain ⟨p0, p1⟩ := BX0.out
  have HL := Lib.hid (fun w1 => Long_any a b n c m d w1)
  clear _hn _hm _nc _cl _md _dl
  cases hl : lgO n m with
  | true =>
    rw [hl] at HL
    clear hr hs hl fz gz
    go_enter Try.func5, Try.ntmps5
    go_wp2_with (first
      | (go_at_call 8; refine (HL.out _).mono ?_; rintro e w1 ⟨rfl, g1⟩; have G1 := Lib.hid (GX.out.trans g1); clear g1)
      | (go_at_call 9; refine (Awake_any _).mono ?_; rintro e w6 ⟨rfl, g6⟩))
    go_ret
    exact ⟨rfl, G1.out.trans g6⟩
  | false =>
    rw [hl] at HL
    have l60 := lgO_false.1 hl
    obtain ⟨kq, A, B, C, D, E, k100, H1, H2⟩ := curve_both (c := c) (d := d) l60.1 l60.2 fz gz hr hs
    obtain ⟨P1, Q1, E1, H3, H4⟩ := area_both (c := c) (d := d) l60.1 l60.2 fz gz hr hs
    obtain ⟨P2, Q2, E2, H5, H6⟩ := pairs_both (c := c) (d := d) l60.1 l60.2 fz gz hr hs
    obtain ⟨P3, Q3, E3, H7, H8⟩ := apart_both (c := c) (d := d) l60.1 l60.2 fz gz hr hs
    have H1 := Lib.hid H1
    have H2 := Lib.hid H2
    have H3 := Lib.hid H3
    have H4 := Lib.hid H4
    have H5 := Lib.hid H5
    have H6 := Lib.hid H6
    have H7 := Lib.hid H7
    have H8 := Lib.hid H8
    clear hr hs hl fz gz l60
    go_enter Try.func5, Try.ntmps5
    go_wp2_with (first
      | (go_at_call 8; refine (HL.out _).mono ?_; rintro e W0 ⟨rfl, g1⟩; have G0 := Lib.hid (GX.out.trans g1); have BX := Lib.hid (BX0.out.gr g1); clear p0 p1; obtain ⟨q0, q1⟩ := BX.out; clear g1)
      | (go_at_call 18; refine (H1.out _ G0.out).mono ?_; rintro e W1 ⟨a1, c1, rfl, l1, l2, rd1, g1⟩; have G1 := Lib.hid (G0.out.trans g1); have BX1 := Lib.hid (BX.out.gr g1); clear q0 q1; obtain ⟨q0, q1⟩ := BX1.out; have R1 := Lib.hid rd1; clear g1 rd1)
      | (go_at_call 19; refine (H2.out _ G1.out).mono ?_; rintro e W2 ⟨a2, c2, rfl, l3, l4, rd2, g1⟩; have G2 := Lib.hid (G1.out.trans g1); have BX2 := Lib.hid (BX1.out.gr g1); clear q0 q1; have R1 := Lib.hid (R1.out.gr g1); have R2 := Lib.hid rd2; clear g1 rd2))
    go_loopw [7, 39] (fun _ i wr => ∃ k : Nat, k ≤ kq ∧ i = .int .i64 k ∧ Hid (Gr W2 wr)) (fun _ i _ => kq - (intOf i).toNat)
    case atStart => exact ⟨0, by omega, rfl, Lib.hid (by first | exact Gr.refl _ | exact (Gr.refl _).drew)⟩
    case round =>
      obtain ⟨k, hk, rfl, HW⟩ := hrel
      by_cases hlt : k < kq
      · have hlti : (k : Int) < (kq : Int) := by omega
        obtain ⟨b1, o1, e1, h1⟩ := (R1.out.gr HW.out).at hlt
        obtain ⟨b2, o2, e2, h2⟩ := (R2.out.gr HW.out).at hlt
        obtain ⟨x0, x1, x2, x3⟩ := h1 k hlt
        obtain ⟨y0, y1, y2, y3⟩ := h2 k hlt
        subst e1
        subst e2
        clear h1 h2
        have h39 := eq39
        go_wp2_with fail
        go_quiet (fail)
        go_wp2_with fail
        go_roundw
        case rel => exact ⟨k + 1, hlt, by go_num, Lib.hid (HW.out.drewN _)⟩
        case measure => simp [intOf]; omega
      · obtain rfl : k = kq := by omega
        have G3 := Lib.hid (G2.out.trans HW.out)
        have BX3 := Lib.hid (BX2.out.gr HW.out)
        obtain ⟨q0, q1⟩ := BX3.out
        go_wp2_with (first
          | (go_at_call 20; refine (H3.out _ G3.out).mono ?_; rintro e v4 ⟨rfl, g1⟩; obtain ⟨W4, hW4⟩ : ∃ W4, v4.alloc (.cells #[.int .i64 P1, .int .i64 Q1] 28) = W4 := ⟨_, rfl⟩; have l4' := Lib.hid (show Gr wr W4 by rw [← hW4]; exact g1.alloc _); have G4 := Lib.hid (G3.out.trans l4'.out); have B4 := Lib.hid (show Box2 W4 v4.heap.size P1 Q1 by rw [← hW4]; exact Box2.new rfl); have BX4 := Lib.hid (BX3.out.gr l4'.out); have N4 := Lib.hid (show w.heap.size < v4.heap.size from Nat.lt_of_lt_of_le (World.block_lt_of_cell? _ _ BX3.out.1) (Gr.size g1)); clear q0 q1; obtain ⟨q0, q1⟩ := BX4.out; clear g1)
          | (go_at_call 21; refine (H4.out _ G4.out).mono ?_; rintro e v5 ⟨rfl, g1⟩; obtain ⟨W5, hW5⟩ : ∃ W5, v5.alloc (.cells #[.int .i64 P1, .int .i64 Q1] 28) = W5 := ⟨_, rfl⟩; have l5' := Lib.hid (show Gr W4 W5 by rw [← hW5]; exact g1.alloc _); have G5 := Lib.hid (G4.out.trans l5'.out); have B5 := Lib.hid (show Box2 W5 v5.heap.size P1 Q1 by rw [← hW5]; exact Box2.new rfl); have BX5 := Lib.hid (BX4.out.gr l5'.out); have N45 := Lib.hid (show v4.heap.size < v5.heap.size from Nat.lt_of_lt_of_le (World.block_lt_of_cell? _ _ B4.out.1) (Gr.size g1)); clear q0 q1; obtain ⟨q0, q1⟩ := BX5.out; obtain ⟨a0, a1', a2', a3'⟩ := B4.out.gr l5'.out; obtain ⟨b0, b1', _⟩ := B5.out; clear g1))
        clear a0 a1' a2' a3' b0 b1'
        go_wp2_with (first
          | (go_at_call 22; refine (H5.out _ G5.out).mono ?_; rintro e v6 ⟨rfl, g1⟩; obtain ⟨s0, s1, s2, s3⟩ := B4.out.gr (l5'.out.trans g1); obtain ⟨W6, hW6⟩ : ∃ W6, (v6.setCell ⟨v4.heap.size, 0, none⟩ (.int .i64 P2)).setCell ⟨v4.heap.size, 1, none⟩ (.int .i64 Q2) = W6 := ⟨_, rfl⟩; have B6 := Lib.hid (show Box2 W6 v4.heap.size P2 Q2 by rw [← hW6]; exact (B4.out.gr (l5'.out.trans g1)).put); have C6 := Lib.hid (show Box2 W6 v5.heap.size P1 Q1 by rw [← hW6]; exact (B5.out.gr g1).far (Nat.ne_of_lt N45.out) _ _); have BX6 := Lib.hid (show BoxO W6 w.heap.size (.slice a n c) (.slice b m d) by rw [← hW6]; exact ⟨cell_far (cell_far (BX5.out.gr g1).1 (Nat.ne_of_gt N4.out) _) (Nat.ne_of_gt N4.out) _, cell_far (cell_far (BX5.out.gr g1).2 (Nat.ne_of_gt N4.out) _) (Nat.ne_of_gt N4.out) _⟩); have G6 := Lib.hid (show Gr w W6 by rw [← hW6]; exact ((G5.out.trans g1).setAt (Nat.le_of_lt N4.out) _).setAt (Nat.le_of_lt N4.out) _); clear q0 q1; obtain ⟨q0, q1⟩ := BX6.out; clear g1)
          | (go_at_call 23; refine (H6.out _ G6.out).mono ?_; rintro e v7 ⟨rfl, g1⟩; clear s0 s1 s2 s3; obtain ⟨s0, s1, s2, s3⟩ := C6.out.gr g1; obtain ⟨W7, hW7⟩ : ∃ W7, (v7.setCell ⟨v5.heap.size, 0, none⟩ (.int .i64 P2)).setCell ⟨v5.heap.size, 1, none⟩ (.int .i64 Q2) = W7 := ⟨_, rfl⟩; have B7 := Lib.hid (show Box2 W7 v5.heap.size P2 Q2 by rw [← hW7]; exact (C6.out.gr g1).put); have C7 := Lib.hid (show Box2 W7 v4.heap.size P2 Q2 by rw [← hW7]; exact (B6.out.gr g1).far (Nat.ne_of_gt N45.out) _ _); have N5 := Lib.hid (Nat.lt_trans N4.out N45.out); have BX7 := Lib.hid (show BoxO W7 w.heap.size (.slice a n c) (.slice b m d) by rw [← hW7]; exact ⟨cell_far (cell_far (BX6.out.gr g1).1 (Nat.ne_of_gt N5.out) _) (Nat.ne_of_gt N5.out) _, cell_far (cell_far (BX6.out.gr g1).2 (Nat.ne_of_gt N5.out) _) (Nat.ne_of_gt N5.out) _⟩); have G7 := Lib.hid (show Gr w W7 by rw [← hW7]; exact ((G6.out.trans g1).setAt (Nat.le_of_lt N5.out) _).setAt (Nat.le_of_lt N5.out) _); clear q0 q1; obtain ⟨q0, q1⟩ := BX7.out; clear g1)
          | (go_at_call 24; refine (H7.out _ G7.out).mono ?_; rintro e v8 ⟨rfl, g1⟩; clear s0 s1 s2 s3; obtain ⟨W8, hW8⟩ : ∃ W8, v8.alloc (.cells #[.int .i64 P3, .int .i64 Q3] 28) = W8 := ⟨_, rfl⟩; have l8 := Lib.hid (show Gr W7 W8 by rw [← hW8]; exact g1.alloc _); have G8 := Lib.hid (G7.out.trans l8.out); have B8 := Lib.hid (show Box2 W8 v8.heap.size P3 Q3 by rw [← hW8]; exact Box2.new rfl); have BX8 := Lib.hid (BX7.out.gr l8.out); clear q0 q1; obtain ⟨q0, q1⟩ := BX8.out; clear g1)
          | (go_at_call 25; refine (H8.out _ G8.out).mono ?_; rintro e v9 ⟨rfl, g1⟩; obtain ⟨W9, hW9⟩ : ∃ W9, v9.alloc (.cells #[.int .i64 P3, .int .i64 Q3] 28) = W9 := ⟨_, rfl⟩; have l9 := Lib.hid (show Gr W8 W9 by rw [← hW9]; exact g1.alloc _); have G9 := Lib.hid (G8.out.trans l9.out); have B9 := Lib.hid (show Box2 W9 v9.heap.size P3 Q3 by rw [← hW9]; exact Box2.new rfl); obtain ⟨a0, a1', _⟩ := C7.out.gr (l8.out.trans l9.out); obtain ⟨b0, b1', _⟩ := B7.out.gr (l8.out.trans l9.out); obtain ⟨x0, x1, _⟩ := B8.out.gr l9.out; obtain ⟨y0, y1, _⟩ := B9.out; clear g1 q0 q1)
          | (go_at_call 9; refine (Awake_any _).mono ?_; rintro e w6 ⟨rfl, g6⟩))
        go_ret
        exact ⟨rfl, G9.out.trans g6⟩
set_option maxRecDepth 100000 in
theorem lifted (os : Os) (started : os.Started) (H : Type) (enc : TypeId × Value → H) :
    ReturnsInHanded {} Try.checked os 5 .any (Rows.weighCurvesSpec.pre6 enc Try.prog Try.f5 Rows.weighCurvesRow.domain false) (Rows.weighCurvesSpec.post enc Try.prog Try.f5 false true false false) := by
  refine returnsInHanded_of_change (C := Try.checked) own started (by kernel_rfl) Try.func5
    (ChangeSpec.witness6 (enc := enc) (C := Try.checked) false ⟨#[], #[.agg #[.slice none 0 0, .slice none 0 0]], []⟩ 8 (by kernel_rfl) (by kernel_rfl) (by kernel_rfl) (by kernel_rfl)) ?_
  intro W base args ds gs before hval0 hW hcnd _
  have hval : ∀ (j : Nat) t v, Try.f5.params[j]? = some t → args[j]? = some v → Value.okWide Try.prog W .any base t v := hval0
  have hW' := hW
  obtain ⟨p, q, hA0, hV, rfl, hfz, hnd⟩ := hW
  have hA : DataW.TrodAll enc Try.prog W 0 (fun _ => true) true Try.f5.params.toList args.toList ds p := hA0
  rw [Try.params5] at hA hval
  obtain ⟨v0, vs0, d0, ds0, p0, q0, hargs, rfl, rfl, h0, r0⟩ := trodAll_cons hA
  obtain ⟨rfl, rfl, rfl⟩ := trodAll_nil r0
  obtain rfl : args = #[v0] := by cases args; simp_all
  obtain ⟨rfl, rfl⟩ := trodVars_none hV
  have k0 := h0
  have lt0 : ∀ x ∈ p0, x.block < W.heap.size := by obtain ⟨m, hm⟩ := k0; exact DataW.trod_lt m _ _ _ hm
  obtain ⟨a0, n0, c0, z0, b0, m0, e0, y0, rfl, wa0, wb0⟩ := open_two Try.underlying24 (by kernel_rfl) (by kernel_rfl) rfl rfl Try.underlying22 Try.underlying3 (by kernel_rfl) (hval 0 24 v0 rfl rfl) h0
  obtain ⟨hn0, nc0, cl0, f0, fz0, fr0⟩ := wa0.clip
  obtain ⟨hm0, md0, dl0, g0, gz0, gr0⟩ := wb0.clip
  clear hA0 hval0
  refine (walk a0 b0 n0 c0 m0 e0 f0 g0 W hn0 hm0 nc0 cl0 md0 dl0 fz0 gz0 fr0 gr0).mono fun e W' ⟨he, bel⟩ => ?_
  subst he
  exact ⟨_, rfl, _, _, _, [], _, [], hW', trodAll_mk1 (shut_bool Try.underlying4 _), (trodAll_cons_mk (Below.trod laidOut (by kernel_rfl) (of_decide_eq_true (by kernel_rfl)) k0 bel lt0) trodAll_mk0), rfl, bel.frame _, fun h => by cases h⟩

theorem over : Rows.weighCurvesRow.holds Try.pinned (OpenSpec.ofChange Rows.weighCurvesSpec) :=
  OpenClaim.holds_of_wide 5 Try.f5 rfl rfl rfl rfl rfl rfl rfl ⟨rfl, rfl, rfl, rfl, rfl⟩ rfl rfl rfl rfl rfl (by kernel_rfl) Try.func5 (by kernel_rfl)
    (of_decide_eq_true (by kernel_rfl)) (by unfold Func.isWrapper; first | (rw [if_pos (by decide +kernel)]; kernel_rfl) | (rw [if_neg (by decide +kernel)]; exact ⟨rfl, rfl⟩))
    (fun os started H enc _ => lifted os started H enc)

/-- The statement. -/
theorem proved : Rows.WeighCurvesSaid := over
end Go.Proofs.Ytohcnicadbpbbaa.weighCurves
