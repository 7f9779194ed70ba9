/- The walk of TopWeigh: it returns true at all odds, cuts and numbers. -/
import Derived.Test.YtohcnicadbpbbaaGreatDoorTold
import Derived.Test.YtohcnicadbpbbaaGreatDoorBestl
import Derived.Test.YtohcnicadbpbbaaGreatDoorMJ
namespace Go.Proofs.YtohcnicadbpbbaaGreatDoor
open Go.RowKit Go.Firn

theorem wr_sm {x y : Int} (h : -1000 ≤ x ∧ x ≤ 1000) (e : x = y) : IntKind.i64.wrap x = y ∧ wrap64 x = y := by
  subst e; exact wr64 (by omega)
theorem tmod_nat (x M : Nat) : (x : Int).tmod (M : Int) = ((x % M : Nat) : Int) := by rw [Int.tmod_eq_emod_of_nonneg (Int.natCast_nonneg x)]; rfl
theorem mrg_num {n x y : Nat} (n2 : 2 ≤ n) (n10 : n ≤ 10) : ∃ M i K r j : Nat, n - 1 = M ∧ i < j ∧ j < n ∧ (x : Int).tmod (M : Int) = (i : Int) ∧ (y : Int).tmod (K : Int) = (r : Int) ∧
    IntKind.i64.wrap ((n : Int) - 1) = (M : Int) ∧ wrap64 ((n : Int) - 1) = (M : Int) ∧ IntKind.i64.wrap ((M : Int) - (i : Int)) = (K : Int) ∧ wrap64 ((M : Int) - (i : Int)) = (K : Int) ∧ IntKind.i64.wrap ((i : Int) + 1) = (i : Int) + 1 ∧ wrap64 ((i : Int) + 1) = (i : Int) + 1 ∧
    IntKind.i64.wrap ((i : Int) + 1 + (r : Int)) = (j : Int) ∧ wrap64 ((i : Int) + 1 + (r : Int)) = (j : Int) ∧ ((M : Int) == 0) = false ∧ ¬ (M : Int) = 0 ∧ ((K : Int) == 0) = false ∧ ¬ (K : Int) = 0 := by
  have h1 : 0 < n - 1 := by omega
  have h2 : x % (n - 1) < n - 1 := Nat.mod_lt _ h1
  have h3 : 0 < n - 1 - x % (n - 1) := by omega
  have h4 : y % (n - 1 - x % (n - 1)) < n - 1 - x % (n - 1) := Nat.mod_lt _ h3
  have t1 : (x : Int).tmod ((n - 1 : Nat) : Int) = ((x % (n - 1) : Nat) : Int) := tmod_nat x (n - 1)
  have t2 : (y : Int).tmod ((n - 1 - x % (n - 1) : Nat) : Int) = ((y % (n - 1 - x % (n - 1)) : Nat) : Int) := tmod_nat y _
  refine ⟨n - 1, x % (n - 1), n - 1 - x % (n - 1), y % (n - 1 - x % (n - 1)), x % (n - 1) + 1 + y % (n - 1 - x % (n - 1)), rfl, ?_, ?_, t1, t2, ?_⟩
  · clear t1 t2; generalize x % (n - 1) = i at *; generalize y % (n - 1 - i) = r at *; omega
  · clear t1 t2; generalize x % (n - 1) = i at *; generalize y % (n - 1 - i) = r at *; omega
  clear t1 t2
  generalize x % (n - 1) = i at *
  generalize y % (n - 1 - i) = r at *
  have i10 : i ≤ 10 := by omega
  have r10 : r ≤ 10 := by omega
  have e : ¬ ((n - 1 : Nat) : Int) = 0 := by omega
  have f : ¬ ((n - 1 - i : Nat) : Int) = 0 := by omega
  have a1 : -1000 ≤ (n : Int) - 1 ∧ (n : Int) - 1 ≤ 1000 := by omega
  have a2 : (n : Int) - 1 = ((n - 1 : Nat) : Int) := by omega
  have b1 : -1000 ≤ ((n - 1 : Nat) : Int) - (i : Int) ∧ ((n - 1 : Nat) : Int) - (i : Int) ≤ 1000 := by omega
  have b2 : ((n - 1 : Nat) : Int) - (i : Int) = ((n - 1 - i : Nat) : Int) := by omega
  have c1 : -1000 ≤ (i : Int) + 1 ∧ (i : Int) + 1 ≤ 1000 := by omega
  have d1 : -1000 ≤ (i : Int) + 1 + (r : Int) ∧ (i : Int) + 1 + (r : Int) ≤ 1000 := by omega
  have d2 : (i : Int) + 1 + (r : Int) = ((i + 1 + r : Nat) : Int) := by omega
  have a := wr_sm a1 a2
  have b := wr_sm b1 b2
  have c := wr_sm c1 rfl
  have d := wr_sm d1 d2
  exact ⟨a.1, a.2, b.1, b.2, c.1, c.2, d.1, d.2, beq_eq_false_iff_ne.2 e, e, beq_eq_false_iff_ne.2 f, f⟩


/-- told, of valid odds and any short list. -/
theorem told_any (a b : Option Addr) (n c d : Nat) (f g : Nat → Int) (a3 : Option Addr) (q c3 : Nat) (h : Nat → Int) (w : World) (hr : RdI w a n f) (hs : RdI w b n g) (ht3 : RdI w a3 q h) (hf : ∀ i, 0 ≤ f i) (hg : ∀ i, 0 ≤ g i) (V : VO n n f g) (hq : q ≤ 60) (hT : Tab w) :
    Calls Tryz.prog 8 #[.agg #[.slice a n c, .slice b n d], .slice a3 q c3] w (RetKp (rN (arA f g n) (2 * sm f n * sm g n)) (rD (arA f g n) (2 * sm f n * sm g n)) (rN (apP f g n) (sm f n * sm g n)) (rD (apP f g n) (sm f n * sm g n)) w) := by
  have n10 := V.noise.few
  cases hc : cutB n q h with
  | false =>
    have E := askE_bad (h := h) (vO_iff.2 V) hc
    refine told_core a b n c d f g _ w hr hs hf hg V hT 2 0 0 0 0 (Lib.hid fun w1 k => ?_) (Lib.hid fun w1 k => ?_) (.inl rfl)
    · have t := refNoise_any a b a3 n c n d q c3 f g h w1 (by omega) (by omega) (by omega) (hr.gr k) (hs.gr k) (ht3.gr k)
      rw [E] at t
      exact t
    · have t := refSignal_any a b a3 n c n d q c3 f g h w1 (by omega) (by omega) (by omega) (hr.gr k) (hs.gr k) (ht3.gr k)
      rw [E] at t
      exact t
  | true =>
    have E := askE_ok (h := h) (vO_iff.2 V) hc
    have C := cutB_iff.1 hc
    have s1 := sm_le10 V.noise
    have s2 := sm_le10 V.signal
    have t1 := kp_all3 C V.noise hf
    have t2 := kp_all3 C V.signal hg
    refine told_core a b n c d f g _ w hr hs hf hg V hT 0 (rN (kp f h q) (sm f n)) (rD (kp f h q) (sm f n)) (rN (kp g h q) (sm g n)) (rD (kp g h q) (sm g n)) (Lib.hid fun w1 k => ?_) (Lib.hid fun w1 k => ?_) (.inr ⟨rfl, sml_red s1.1 (by omega) t1.1 t1.2, sml_red s2.1 (by omega) t2.1 t2.2, fun j hj h0 hl => cut_no_better V hf hg C hj h0 hl⟩)
    · have t := refNoise_any a b a3 n c n d q c3 f g h w1 (by omega) (by omega) (by omega) (hr.gr k) (hs.gr k) (ht3.gr k)
      rw [E] at t
      exact t
    · have t := refSignal_any a b a3 n c n d q c3 f g h w1 (by omega) (by omega) (by omega) (hr.gr k) (hs.gr k) (ht3.gr k)
      rw [E] at t
      exact t
theorem red_le {n d n' d' : Int} (hd : 0 < d) (hd' : 0 < d') (h : n * d' ≤ n' * d) : rN n d * rD n' d' ≤ rN n' d' * rD n d := Int.not_lt.1 (red_not hd hd' h)
theorem ar_swap {f g : Nat → Int} {n : Nat} (hf : ∀ i, 0 ≤ f i) (hg : ∀ i, 0 ≤ g i) (hn : 0 < n) : arA g f n = arA f g n := by rw [arA_mx hg hf hn, arA_mx hf hg hn, mx_swap]

set_option maxHeartbeats 16000000 in
set_option maxRecDepth 100000 in
theorem top_core (a b : Option Addr) (n c d : Nat) (f g : Nat → Int) (a3 : Option Addr) (q c3 : Nat) (h : Nat → Int) (x y : Nat) (w : World) (hr : RdI w a n f) (hs : RdI w b n g) (ht3 : RdI w a3 q h) (hf : ∀ i, 0 ≤ f i) (hg : ∀ i, 0 ≤ g i) (V : VO n n f g) (hq : q ≤ 60) (_hx : x < 256) (_hy : y < 256) (hT : Tab w) :
    Calls Tryz.prog 3 #[.agg #[.slice a n c, .slice b n d], .slice a3 q c3, .int .u8 x, .int .u8 y] w (RetB true w) := by
  have n10 := V.noise.few
  have n1 := V.noise.one
  obtain ⟨X0, hX0⟩ : ∃ X0, w.alloc (.cells #[.slice a n c, .slice b n d] 24) = X0 := ⟨_, rfl⟩
  have G0 := Lib.hid (show Gr w X0 by rw [← hX0]; exact (Gr.refl w).alloc _)
  have BA := Lib.hid (show BoxO X0 w.heap.size (.slice a n c) (.slice b n d) by rw [← hX0]; exact BoxO.new rfl)
  obtain ⟨ba_0, ba_1⟩ := BA.out
  have HL := Lib.hid (fun w1 => Long_any a b n c n d w1)
  rw [lgO_false.2 ⟨by omega, by omega⟩] at HL
  have CV := Lib.hid (fun w1 (k : Gr w w1) => refValid_any a b n c n d f g w1 (by omega) (by omega) (hr.gr k) (hs.gr k))
  rw [vO_iff.2 V] at CV
  have i1 : ¬ (60 : Int) < (q : Int) := by omega
  have i2 : ¬ (q : Int) > 60 := by omega
  have V2 : VO n n g f := ⟨V.signal, V.noise, rfl⟩
  have SS := ss_bd V
  have SS2 : 0 < 2 * sm f n * sm g n := by rw [Int.mul_assoc]; omega
  have H1 := Lib.hid (fun w1 (k : Gr w w1) => told_any a b n c d f g a3 q c3 h w1 (hr.gr k) (hs.gr k) (ht3.gr k) hf hg V hq (hT.gr k))
  have H2 := Lib.hid (fun w1 (k : Gr w w1) => Swapped_ok a b n c d f g w1 (hr.gr k) (hs.gr k) V)
  have H3 := Lib.hid (fun w1 ax ay (cx cy : Nat) (rx : RdI w1 ax n g) (ry : RdI w1 ay n f) => show Calls Tryz.prog 6 #[.agg #[.slice ax n cx, .slice ay n cy]] w1 (RetB true w1) from by
    have t := refValid_any ax ay n cx n cy g f w1 (by omega) (by omega) rx ry
    rwa [vO_iff.2 V2] at t)
  have H4 := Lib.hid (fun w1 (k : Gr w w1) ax ay (cx cy : Nat) (rx : RdI w1 ax n g) (ry : RdI w1 ay n f) => show Calls Tryz.prog 8 #[.agg #[.slice ax n cx, .slice ay n cy], .slice a3 q c3] w1 (RetKp (rN (arA f g n) (2 * sm f n * sm g n)) (rD (arA f g n) (2 * sm f n * sm g n)) (rN (apP f g n) (sm f n * sm g n)) (rD (apP f g n) (sm f n * sm g n)) w1) from by
    have t := told_any ax ay n cx cy g f a3 q c3 h w1 rx ry (ht3.gr k) hg hf V2 hq (hT.gr k)
    have e2 : 2 * sm g n * sm f n = 2 * sm f n * sm g n := by rw [Int.mul_assoc, Int.mul_assoc, Int.mul_comm (sm g n)]
    rwa [ar_swap hf hg n1, ap_swap, e2, Int.mul_comm (sm g n) (sm f n)] at t)
  by_cases n2 : n < 2
  · have i3 : (n : Int) < 2 := by omega
    clear hr hs ht3 hf hg V V2 hT SS SS2
    generalize rN (arA f g n) (2 * sm f n * sm g n) = P1 at *
    generalize rD (arA f g n) (2 * sm f n * sm g n) = Q1 at *
    generalize rN (apP f g n) (sm f n * sm g n) = P2 at *
    generalize rD (apP f g n) (sm f n * sm g n) = Q2 at *
    go_enter Tryz.func3, Tryz.ntmps3
    go_wp2_with (first
      | (go_at_call 5; (with_reducible refine (HL.out _).mono ?_); rintro e v1 ⟨rfl, g1⟩; have G1 := Lib.hid (G0.out.trans g1); have BA := Lib.hid (BA.out.gr g1); (try clear ba_0 ba_1); obtain ⟨ba_0, ba_1⟩ := BA.out; clear g1)
      | (go_at_call 6; (with_reducible refine (CV.out _ G1.out).mono ?_); rintro e v2 ⟨rfl, g2⟩; have G2 := Lib.hid (G1.out.trans g2); have BA := Lib.hid (BA.out.gr g2); (try clear ba_0 ba_1); obtain ⟨ba_0, ba_1⟩ := BA.out; clear g2)
      | (go_at_call 8; (with_reducible refine (H1.out _ G2.out).mono ?_); rintro e v3 ⟨rfl, g3⟩; have gg := (((g3).alloc (.cells #[.int .i64 P1, .int .i64 Q1] 28))).alloc (.cells #[.int .i64 P2, .int .i64 Q2] 28); obtain ⟨V3, hV3⟩ : ∃ V3, (v3.alloc (.cells #[.int .i64 P1, .int .i64 Q1] 28)).alloc (.cells #[.int .i64 P2, .int .i64 Q2] 28) = V3 := ⟨_, rfl⟩; rw [hV3] at gg; have G3 := Lib.hid (G2.out.trans gg); have BA := Lib.hid (BA.out.gr gg); have YA := Lib.hid (show Box2 V3 v3.heap.size P1 Q1 by rw [← hV3]; exact (Box2.new rfl).gr ((Gr.refl _).alloc _)); have ZA := Lib.hid (show Box2 V3 (v3.heap.size + 1) P2 Q2 by rw [← hV3]; exact Box2.new (by simp)); (try clear ba_0 ba_1); obtain ⟨ba_0, ba_1⟩ := BA.out; (try clear ya_0 ya_1); obtain ⟨ya_0, ya_1, _⟩ := YA.out; (try clear za_0 za_1); obtain ⟨za_0, za_1, _⟩ := ZA.out; clear g3 gg)
      | (go_at_call 9; (with_reducible refine (H2.out _ G3.out).mono ?_); rintro e v4 ⟨a4x, c4x, a4y, c4y, rfl, r4, q4, g4⟩; have gg := (g4).alloc (.cells #[.slice a4x n c4x, .slice a4y n c4y] 24); obtain ⟨V4, hV4⟩ : ∃ V4, v4.alloc (.cells #[.slice a4x n c4x, .slice a4y n c4y] 24) = V4 := ⟨_, rfl⟩; rw [hV4] at gg; have G4 := Lib.hid (G3.out.trans gg); have BA := Lib.hid (BA.out.gr gg); have YA := Lib.hid (YA.out.gr gg); have ZA := Lib.hid (ZA.out.gr gg); have BS := Lib.hid (show Box2v V4 v4.heap.size (.slice a4x n c4x) (.slice a4y n c4y) by rw [← hV4]; exact Box2v.new rfl); have RBS := Lib.hid (show RdI V4 a4x n g by rw [← hV4]; exact r4.gr ((Gr.refl _).alloc _)); have SBS := Lib.hid (show RdI V4 a4y n f by rw [← hV4]; exact q4.gr ((Gr.refl _).alloc _)); (try clear ba_0 ba_1); obtain ⟨ba_0, ba_1⟩ := BA.out; (try clear ya_0 ya_1); obtain ⟨ya_0, ya_1, _⟩ := YA.out; (try clear za_0 za_1); obtain ⟨za_0, za_1, _⟩ := ZA.out; (try clear bs_0 bs_1); obtain ⟨bs_0, bs_1, _⟩ := BS.out; clear g4 gg)
      | (go_at_call 6; (with_reducible refine (H3.out _ _ _ _ _ RBS.out SBS.out).mono ?_); rintro e v5 ⟨rfl, g5⟩; have G5 := Lib.hid (G4.out.trans g5); have BA := Lib.hid (BA.out.gr g5); have YA := Lib.hid (YA.out.gr g5); have ZA := Lib.hid (ZA.out.gr g5); have BS := Lib.hid (BS.out.gr g5); have RBS := Lib.hid (RBS.out.gr g5); have SBS := Lib.hid (SBS.out.gr g5); (try clear ba_0 ba_1); obtain ⟨ba_0, ba_1⟩ := BA.out; (try clear ya_0 ya_1); obtain ⟨ya_0, ya_1, _⟩ := YA.out; (try clear za_0 za_1); obtain ⟨za_0, za_1, _⟩ := ZA.out; (try clear bs_0 bs_1); obtain ⟨bs_0, bs_1, _⟩ := BS.out; clear g5)
      | (go_at_call 8; (with_reducible refine (H4.out _ G5.out _ _ _ _ RBS.out SBS.out).mono ?_); rintro e v6 ⟨rfl, g6⟩; have gg := (((g6).alloc (.cells #[.int .i64 P1, .int .i64 Q1] 28))).alloc (.cells #[.int .i64 P2, .int .i64 Q2] 28); obtain ⟨V6, hV6⟩ : ∃ V6, (v6.alloc (.cells #[.int .i64 P1, .int .i64 Q1] 28)).alloc (.cells #[.int .i64 P2, .int .i64 Q2] 28) = V6 := ⟨_, rfl⟩; rw [hV6] at gg; have G6 := Lib.hid (G5.out.trans gg); have BA := Lib.hid (BA.out.gr gg); have YA := Lib.hid (YA.out.gr gg); have ZA := Lib.hid (ZA.out.gr gg); have BS := Lib.hid (BS.out.gr gg); have RBS := Lib.hid (RBS.out.gr gg); have SBS := Lib.hid (SBS.out.gr gg); have YB := Lib.hid (show Box2 V6 v6.heap.size P1 Q1 by rw [← hV6]; exact (Box2.new rfl).gr ((Gr.refl _).alloc _)); have ZB := Lib.hid (show Box2 V6 (v6.heap.size + 1) P2 Q2 by rw [← hV6]; exact Box2.new (by simp)); (try clear ba_0 ba_1); obtain ⟨ba_0, ba_1⟩ := BA.out; (try clear ya_0 ya_1); obtain ⟨ya_0, ya_1, _⟩ := YA.out; (try clear za_0 za_1); obtain ⟨za_0, za_1, _⟩ := ZA.out; (try clear bs_0 bs_1); obtain ⟨bs_0, bs_1, _⟩ := BS.out; (try clear yb_0 yb_1); obtain ⟨yb_0, yb_1, _⟩ := YB.out; (try clear zb_0 zb_1); obtain ⟨zb_0, zb_1, _⟩ := ZB.out; clear g6 gg)
      | (go_at_call 7; refine (Awake_any _).mono ?_; rintro e w9 ⟨rfl, g9⟩))
    go_ret
    exact ⟨rfl, G6.out.trans g9⟩
  have i3 : ¬ (n : Int) < 2 := by omega
  have n2' : 2 ≤ n := by omega
  obtain ⟨wy1, wy2⟩ := wr64 (x := (y : Int)) (by omega)
  obtain ⟨wx1, wx2⟩ := wr64 (x := (x : Int)) (by clear wy1 wy2; omega)
  obtain ⟨M, i, K, r, j, eM, hij, hjn, m0, m1, q1, q2, q3, q4, q5, q6, q7, q8, z0, z1, z2, z3⟩ := mrg_num (x := x) (y := y) n2' n10
  have zK : ¬ K = 0 := fun e => z3 (by rw [e]; rfl)
  have zM : ¬ M = 0 := fun e => z1 (by rw [e]; rfl)
  have M10 : M ≤ 10 := by clear wx1 wx2 wy1 wy2 q1 q2 q3 q4 q5 q6 q7 q8; omega
  have H28 := Lib.hid (fun w1 (k : Gr w w1) => Merged_ok a b n c d f g w1 (hr.gr k) (hs.gr k) V i j hij hjn)
  rw [eM] at H28
  have F1 := mg_all hf i j
  have G1' := mg_all hg i j
  have HV := Lib.hid (fun w1 ax ay (cx cy : Nat) (rx : RdI w1 ax M (mgF f i j)) (ry : RdI w1 ay M (mgF g i j)) => refValid_any ax ay M cx M cy (mgF f i j) (mgF g i j) w1 (show M ≤ 1000 from Nat.le_trans M10 (by decide)) (show M ≤ 1000 from Nat.le_trans M10 (by decide)) rx ry)
  cases hv : vO M M (mgF f i j) (mgF g i j) with
  | false =>
    rw [hv] at HV
    clear hr hs ht3 hf hg V V2 hT SS SS2 F1 G1' hv eM hij hjn
    generalize rN (arA f g n) (2 * sm f n * sm g n) = P1 at *
    generalize rD (arA f g n) (2 * sm f n * sm g n) = Q1 at *
    generalize rN (apP f g n) (sm f n * sm g n) = P2 at *
    generalize rD (apP f g n) (sm f n * sm g n) = Q2 at *
    generalize mgF f i j = F at *
    generalize mgF g i j = G at *
    go_enter Tryz.func3, Tryz.ntmps3
    go_wp2_with (first
      | (go_at_call 5; (with_reducible refine (HL.out _).mono ?_); rintro e v1 ⟨rfl, g1⟩; have G1 := Lib.hid (G0.out.trans g1); have BA := Lib.hid (BA.out.gr g1); (try clear ba_0 ba_1); obtain ⟨ba_0, ba_1⟩ := BA.out; clear g1)
      | (go_at_call 6; (with_reducible refine (CV.out _ G1.out).mono ?_); rintro e v2 ⟨rfl, g2⟩; have G2 := Lib.hid (G1.out.trans g2); have BA := Lib.hid (BA.out.gr g2); (try clear ba_0 ba_1); obtain ⟨ba_0, ba_1⟩ := BA.out; clear g2)
      | (go_at_call 8; (with_reducible refine (H1.out _ G2.out).mono ?_); rintro e v3 ⟨rfl, g3⟩; have gg := (((g3).alloc (.cells #[.int .i64 P1, .int .i64 Q1] 28))).alloc (.cells #[.int .i64 P2, .int .i64 Q2] 28); obtain ⟨V3, hV3⟩ : ∃ V3, (v3.alloc (.cells #[.int .i64 P1, .int .i64 Q1] 28)).alloc (.cells #[.int .i64 P2, .int .i64 Q2] 28) = V3 := ⟨_, rfl⟩; rw [hV3] at gg; have G3 := Lib.hid (G2.out.trans gg); have BA := Lib.hid (BA.out.gr gg); have YA := Lib.hid (show Box2 V3 v3.heap.size P1 Q1 by rw [← hV3]; exact (Box2.new rfl).gr ((Gr.refl _).alloc _)); have ZA := Lib.hid (show Box2 V3 (v3.heap.size + 1) P2 Q2 by rw [← hV3]; exact Box2.new (by simp)); (try clear ba_0 ba_1); obtain ⟨ba_0, ba_1⟩ := BA.out; (try clear ya_0 ya_1); obtain ⟨ya_0, ya_1, _⟩ := YA.out; (try clear za_0 za_1); obtain ⟨za_0, za_1, _⟩ := ZA.out; clear g3 gg)
      | (go_at_call 9; (with_reducible refine (H2.out _ G3.out).mono ?_); rintro e v4 ⟨a4x, c4x, a4y, c4y, rfl, r4, q4, g4⟩; have gg := (g4).alloc (.cells #[.slice a4x n c4x, .slice a4y n c4y] 24); obtain ⟨V4, hV4⟩ : ∃ V4, v4.alloc (.cells #[.slice a4x n c4x, .slice a4y n c4y] 24) = V4 := ⟨_, rfl⟩; rw [hV4] at gg; have G4 := Lib.hid (G3.out.trans gg); have BA := Lib.hid (BA.out.gr gg); have YA := Lib.hid (YA.out.gr gg); have ZA := Lib.hid (ZA.out.gr gg); have BS := Lib.hid (show Box2v V4 v4.heap.size (.slice a4x n c4x) (.slice a4y n c4y) by rw [← hV4]; exact Box2v.new rfl); have RBS := Lib.hid (show RdI V4 a4x n g by rw [← hV4]; exact r4.gr ((Gr.refl _).alloc _)); have SBS := Lib.hid (show RdI V4 a4y n f by rw [← hV4]; exact q4.gr ((Gr.refl _).alloc _)); (try clear ba_0 ba_1); obtain ⟨ba_0, ba_1⟩ := BA.out; (try clear ya_0 ya_1); obtain ⟨ya_0, ya_1, _⟩ := YA.out; (try clear za_0 za_1); obtain ⟨za_0, za_1, _⟩ := ZA.out; (try clear bs_0 bs_1); obtain ⟨bs_0, bs_1, _⟩ := BS.out; clear g4 gg)
      | (go_at_call 6; (with_reducible refine (H3.out _ _ _ _ _ RBS.out SBS.out).mono ?_); rintro e v5 ⟨rfl, g5⟩; have G5 := Lib.hid (G4.out.trans g5); have BA := Lib.hid (BA.out.gr g5); have YA := Lib.hid (YA.out.gr g5); have ZA := Lib.hid (ZA.out.gr g5); have BS := Lib.hid (BS.out.gr g5); have RBS := Lib.hid (RBS.out.gr g5); have SBS := Lib.hid (SBS.out.gr g5); (try clear ba_0 ba_1); obtain ⟨ba_0, ba_1⟩ := BA.out; (try clear ya_0 ya_1); obtain ⟨ya_0, ya_1, _⟩ := YA.out; (try clear za_0 za_1); obtain ⟨za_0, za_1, _⟩ := ZA.out; (try clear bs_0 bs_1); obtain ⟨bs_0, bs_1, _⟩ := BS.out; clear g5)
      | (go_at_call 8; (with_reducible refine (H4.out _ G5.out _ _ _ _ RBS.out SBS.out).mono ?_); rintro e v6 ⟨rfl, g6⟩; have gg := (((g6).alloc (.cells #[.int .i64 P1, .int .i64 Q1] 28))).alloc (.cells #[.int .i64 P2, .int .i64 Q2] 28); obtain ⟨V6, hV6⟩ : ∃ V6, (v6.alloc (.cells #[.int .i64 P1, .int .i64 Q1] 28)).alloc (.cells #[.int .i64 P2, .int .i64 Q2] 28) = V6 := ⟨_, rfl⟩; rw [hV6] at gg; have G6 := Lib.hid (G5.out.trans gg); have BA := Lib.hid (BA.out.gr gg); have YA := Lib.hid (YA.out.gr gg); have ZA := Lib.hid (ZA.out.gr gg); have BS := Lib.hid (BS.out.gr gg); have RBS := Lib.hid (RBS.out.gr gg); have SBS := Lib.hid (SBS.out.gr gg); have YB := Lib.hid (show Box2 V6 v6.heap.size P1 Q1 by rw [← hV6]; exact (Box2.new rfl).gr ((Gr.refl _).alloc _)); have ZB := Lib.hid (show Box2 V6 (v6.heap.size + 1) P2 Q2 by rw [← hV6]; exact Box2.new (by simp)); (try clear ba_0 ba_1); obtain ⟨ba_0, ba_1⟩ := BA.out; (try clear ya_0 ya_1); obtain ⟨ya_0, ya_1, _⟩ := YA.out; (try clear za_0 za_1); obtain ⟨za_0, za_1, _⟩ := ZA.out; (try clear bs_0 bs_1); obtain ⟨bs_0, bs_1, _⟩ := BS.out; (try clear yb_0 yb_1); obtain ⟨yb_0, yb_1, _⟩ := YB.out; (try clear zb_0 zb_1); obtain ⟨zb_0, zb_1, _⟩ := ZB.out; clear g6 gg))
    refine (wpIn_wide (n := 3)).1 ?_
    refine wpIn_region_held (fun w' => Gr V6 w') 21 (by kernel_rfl) rfl rfl ?_
    have hS : Gr V6 V6.drew := (Gr.refl V6).drew
    generalize V6.drew = Wd at hS ⊢
    iterate 14 (first
      | (refine wpAnyHIn_take 0 (v := ?_) rfl (by kernel_rfl) (by kernel_rfl) (by kernel_rfl) (by decide +kernel) (fun _ _ _ h => h) (fun _ _ _ => trivial) (by rfl) (fun w' hSw => ?_) hS ?_; rotate_left 1; (focus (have z0 := hSw.cell ba_0; have z1 := hSw.cell ba_1; go_simp; try with_reducible rfl)); simp only [Act.put, List.setIfInBounds_toArray, List.set_cons_zero, List.set_cons_succ])
      | (refine wpAnyHIn_take 1 (v := ?_) rfl (by kernel_rfl) (by kernel_rfl) (by kernel_rfl) (by decide +kernel) (fun _ _ _ h => h) (fun _ _ _ => trivial) (by rfl) (fun w' hSw => ?_) hS ?_; rotate_left 1; (focus (have z0 := hSw.cell ba_0; have z1 := hSw.cell ba_1; go_simp; try with_reducible rfl)); simp only [Act.put, List.setIfInBounds_toArray, List.set_cons_zero, List.set_cons_succ])
      | (refine wpAnyHIn_take 2 (v := ?_) rfl (by kernel_rfl) (by kernel_rfl) (by kernel_rfl) (by decide +kernel) (fun _ _ _ h => h) (fun _ _ _ => trivial) (by rfl) (fun w' hSw => ?_) hS ?_; rotate_left 1; (focus (have z0 := hSw.cell ba_0; have z1 := hSw.cell ba_1; go_simp; try with_reducible rfl)); simp only [Act.put, List.setIfInBounds_toArray, List.set_cons_zero, List.set_cons_succ])
      | (refine wpAnyHIn_take 3 (v := ?_) rfl (by kernel_rfl) (by kernel_rfl) (by kernel_rfl) (by decide +kernel) (fun _ _ _ h => h) (fun _ _ _ => trivial) (by rfl) (fun w' hSw => ?_) hS ?_; rotate_left 1; (focus (have z0 := hSw.cell ba_0; have z1 := hSw.cell ba_1; go_simp; try with_reducible rfl)); simp only [Act.put, List.setIfInBounds_toArray, List.set_cons_zero, List.set_cons_succ])
      | (refine wpAnyHIn_take 4 (v := ?_) rfl (by kernel_rfl) (by kernel_rfl) (by kernel_rfl) (by decide +kernel) (fun _ _ _ h => h) (fun _ _ _ => trivial) (by rfl) (fun w' hSw => ?_) hS ?_; rotate_left 1; (focus (have z0 := hSw.cell ba_0; have z1 := hSw.cell ba_1; go_simp; try with_reducible rfl)); simp only [Act.put, List.setIfInBounds_toArray, List.set_cons_zero, List.set_cons_succ])
      | (refine wpAnyHIn_take 5 (v := ?_) rfl (by kernel_rfl) (by kernel_rfl) (by kernel_rfl) (by decide +kernel) (fun _ _ _ h => h) (fun _ _ _ => trivial) (by rfl) (fun w' hSw => ?_) hS ?_; rotate_left 1; (focus (have z0 := hSw.cell ba_0; have z1 := hSw.cell ba_1; go_simp; try with_reducible rfl)); simp only [Act.put, List.setIfInBounds_toArray, List.set_cons_zero, List.set_cons_succ])
      | (refine wpAnyHIn_take 6 (v := ?_) rfl (by kernel_rfl) (by kernel_rfl) (by kernel_rfl) (by decide +kernel) (fun _ _ _ h => h) (fun _ _ _ => trivial) (by rfl) (fun w' hSw => ?_) hS ?_; rotate_left 1; (focus (have z0 := hSw.cell ba_0; have z1 := hSw.cell ba_1; go_simp; try with_reducible rfl)); simp only [Act.put, List.setIfInBounds_toArray, List.set_cons_zero, List.set_cons_succ])
      | (refine wpAnyHIn_take 7 (v := ?_) rfl (by kernel_rfl) (by kernel_rfl) (by kernel_rfl) (by decide +kernel) (fun _ _ _ h => h) (fun _ _ _ => trivial) (by rfl) (fun w' hSw => ?_) hS ?_; rotate_left 1; (focus (have z0 := hSw.cell ba_0; have z1 := hSw.cell ba_1; go_simp; try with_reducible rfl)); simp only [Act.put, List.setIfInBounds_toArray, List.set_cons_zero, List.set_cons_succ])
      | (refine wpAnyHIn_take 8 (v := ?_) rfl (by kernel_rfl) (by kernel_rfl) (by kernel_rfl) (by decide +kernel) (fun _ _ _ h => h) (fun _ _ _ => trivial) (by rfl) (fun w' hSw => ?_) hS ?_; rotate_left 1; (focus (have z0 := hSw.cell ba_0; have z1 := hSw.cell ba_1; go_simp; try with_reducible rfl)); simp only [Act.put, List.setIfInBounds_toArray, List.set_cons_zero, List.set_cons_succ])
      | (refine wpAnyHIn_take 9 (v := ?_) rfl (by kernel_rfl) (by kernel_rfl) (by kernel_rfl) (by decide +kernel) (fun _ _ _ h => h) (fun _ _ _ => trivial) (by rfl) (fun w' hSw => ?_) hS ?_; rotate_left 1; (focus (have z0 := hSw.cell ba_0; have z1 := hSw.cell ba_1; go_simp; try with_reducible rfl)); simp only [Act.put, List.setIfInBounds_toArray, List.set_cons_zero, List.set_cons_succ])
      | (refine wpAnyHIn_take 10 (v := ?_) rfl (by kernel_rfl) (by kernel_rfl) (by kernel_rfl) (by decide +kernel) (fun _ _ _ h => h) (fun _ _ _ => trivial) (by rfl) (fun w' hSw => ?_) hS ?_; rotate_left 1; (focus (have z0 := hSw.cell ba_0; have z1 := hSw.cell ba_1; go_simp; try with_reducible rfl)); simp only [Act.put, List.setIfInBounds_toArray, List.set_cons_zero, List.set_cons_succ])
      | (refine wpAnyHIn_take 11 (v := ?_) rfl (by kernel_rfl) (by kernel_rfl) (by kernel_rfl) (by decide +kernel) (fun _ _ _ h => h) (fun _ _ _ => trivial) (by rfl) (fun w' hSw => ?_) hS ?_; rotate_left 1; (focus (have z0 := hSw.cell ba_0; have z1 := hSw.cell ba_1; go_simp; try with_reducible rfl)); simp only [Act.put, List.setIfInBounds_toArray, List.set_cons_zero, List.set_cons_succ])
      | (refine wpAnyHIn_take 12 (v := ?_) rfl (by kernel_rfl) (by kernel_rfl) (by kernel_rfl) (by decide +kernel) (fun _ _ _ h => h) (fun _ _ _ => trivial) (by rfl) (fun w' hSw => ?_) hS ?_; rotate_left 1; (focus (have z0 := hSw.cell ba_0; have z1 := hSw.cell ba_1; go_simp; try with_reducible rfl)); simp only [Act.put, List.setIfInBounds_toArray, List.set_cons_zero, List.set_cons_succ])
      | (refine wpAnyHIn_take 13 (v := ?_) rfl (by kernel_rfl) (by kernel_rfl) (by kernel_rfl) (by decide +kernel) (fun _ _ _ h => h) (fun _ _ _ => trivial) (by rfl) (fun w' hSw => ?_) hS ?_; rotate_left 1; (focus (have z0 := hSw.cell ba_0; have z1 := hSw.cell ba_1; go_simp; try with_reducible rfl)); simp only [Act.put, List.setIfInBounds_toArray, List.set_cons_zero, List.set_cons_succ]))
    refine wpAnyHIn_ready [14, 18] (by kernel_rfl) (by simp) ?_
    refine AllHIn.cons rfl (by rfl) (fun K hK => ?_) (AllHIn.cons rfl (by rfl) (fun K hK => ?_) AllHIn.nil)
    · go_simp
      refine ⟨trivial, ?_⟩
      refine (callsIn_wide.2 (H28.out _ (G6.out.trans (hS)))).mono ?_
      rintro e wX ⟨am, cm, bm, dm, rfl, rm, sm1, gX⟩
      have RM := Lib.hid rm
      have SM := Lib.hid sm1
      have hS : Gr V6 wX := hS.trans gX
      refine hK.out _ _ hS ?_
      clear hK K gX rm sm1
      iterate 3 (first
        | (refine wpAnyHIn_take 15 (v := ?_) rfl (by kernel_rfl) (by kernel_rfl) (by kernel_rfl) (by decide +kernel) (fun _ _ _ h => h) (fun _ _ _ => trivial) (by rfl) (fun w' hSw => ?_) hS ?_; rotate_left 1; (focus (skip; go_simp; try with_reducible rfl)); simp only [Act.put, List.setIfInBounds_toArray, List.set_cons_zero, List.set_cons_succ])
        | (refine wpAnyHIn_take 16 (v := ?_) rfl (by kernel_rfl) (by kernel_rfl) (by kernel_rfl) (by decide +kernel) (fun _ _ _ h => h) (fun _ _ _ => trivial) (by rfl) (fun w' hSw => ?_) hS ?_; rotate_left 1; (focus (skip; go_simp; try with_reducible rfl)); simp only [Act.put, List.setIfInBounds_toArray, List.set_cons_zero, List.set_cons_succ])
        | (refine wpAnyHIn_take 17 (v := ?_) rfl (by kernel_rfl) (by kernel_rfl) (by kernel_rfl) (by decide +kernel) (fun _ _ _ h => h) (fun _ _ _ => trivial) (by rfl) (fun w' hSw => ?_) hS ?_; rotate_left 1; (focus (skip; go_simp; try with_reducible rfl)); simp only [Act.put, List.setIfInBounds_toArray, List.set_cons_zero, List.set_cons_succ]))
      refine wpAnyHIn_ready [18] (by kernel_rfl) (by simp) ?_
      refine AllHIn.cons rfl (by rfl) (fun K hK => ?_) AllHIn.nil
      go_simp
      refine hK.out _ _ (hS.alloc _) ?_
      clear hK K
      refine wpAnyHIn_ready [19] (by kernel_rfl) (by simp) ?_
      refine AllHIn.cons rfl (by rfl) (fun K hK => ?_) AllHIn.nil
      go_simp
      refine hK.out _ _ (hS.alloc (.cells #[.slice am M cm, .slice bm M dm] 24)) ?_
      clear hK K
      have hS := hS.alloc (.cells #[.slice am M cm, .slice bm M dm] 24)
      have hT1 : Gr wX (wX.alloc (.cells #[.slice am M cm, .slice bm M dm] 24)) := (Gr.refl wX).alloc _
      iterate 1 (first
        | (refine wpAnyHIn_take 20 (v := ?_) rfl (by kernel_rfl) (by kernel_rfl) (by kernel_rfl) (by decide +kernel) (fun _ _ _ h => h) (fun _ _ _ => trivial) (by rfl) (fun w' hSw => ?_) hS ?_; rotate_left 1; (focus (skip; go_simp; try with_reducible rfl)); simp only [Act.put, List.setIfInBounds_toArray, List.set_cons_zero, List.set_cons_succ]))
      refine wpAnyHIn_done (by kernel_rfl) ?_ _
      have BM := Lib.hid (show Box2v (wX.alloc (.cells #[.slice am M cm, .slice bm M dm] 24)) wX.heap.size (.slice am M cm) (.slice bm M dm) from Box2v.new rfl)
      have RM := Lib.hid (RM.out.gr hT1)
      have SM := Lib.hid (SM.out.gr hT1)
      have G40 := Lib.hid (G6.out.trans hS)
      have BA := Lib.hid (BA.out.gr hS)
      have YA := Lib.hid (YA.out.gr hS)
      have ZA := Lib.hid (ZA.out.gr hS)
      obtain ⟨V40, hV40⟩ : ∃ V40, wX.alloc (.cells #[.slice am M cm, .slice bm M dm] 24) = V40 := ⟨_, rfl⟩
      rw [hV40] at BM RM SM G40 BA YA ZA
      (try rw [hV40])
      clear hS hT1 hV40
      (try clear ba_0 ba_1 ya_0 ya_1 za_0 za_1 bs_0 bs_1 yb_0 yb_1 zb_0 zb_1)
      (try clear ba_0 ba_1); obtain ⟨ba_0, ba_1⟩ := BA.out; (try clear ya_0 ya_1); obtain ⟨ya_0, ya_1, _⟩ := YA.out; (try clear za_0 za_1); obtain ⟨za_0, za_1, _⟩ := ZA.out; (try clear bm_0 bm_1); obtain ⟨bm_0, bm_1, _⟩ := BM.out
      go_wp2_with (first
        | (go_at_call 6; (with_reducible refine (HV.out _ _ _ _ _ RM.out SM.out).mono ?_); rintro e v41 ⟨rfl, g41⟩; have G41 := Lib.hid (G40.out.trans g41); have BA := Lib.hid (BA.out.gr g41); have YA := Lib.hid (YA.out.gr g41); have ZA := Lib.hid (ZA.out.gr g41); have BM := Lib.hid (BM.out.gr g41); have RM := Lib.hid (RM.out.gr g41); have SM := Lib.hid (SM.out.gr g41); (try clear ba_0 ba_1); obtain ⟨ba_0, ba_1⟩ := BA.out; (try clear ya_0 ya_1); obtain ⟨ya_0, ya_1, _⟩ := YA.out; (try clear za_0 za_1); obtain ⟨za_0, za_1, _⟩ := ZA.out; (try clear bm_0 bm_1); obtain ⟨bm_0, bm_1, _⟩ := BM.out; clear g41)
        | (go_at_call 7; refine (Awake_any _).mono ?_; rintro e w9 ⟨rfl, g9⟩))
      go_ret
      exact ⟨rfl, G41.out.trans g9⟩
    · go_simp
      have hS1 := hS.alloc (.cells #[.slice none 0 0, .slice none 0 0] 24)
      refine hK.out _ _ hS1 ?_
      clear hK K
      refine wpAnyHIn_ready [14] (by kernel_rfl) (by simp) ?_
      refine AllHIn.cons rfl (by rfl) (fun K hK => ?_) AllHIn.nil
      go_simp
      refine ⟨trivial, ?_⟩
      refine (callsIn_wide.2 (H28.out _ (G6.out.trans (hS1)))).mono ?_
      rintro e wX ⟨am, cm, bm, dm, rfl, rm, sm1, gX⟩
      have RM := Lib.hid rm
      have SM := Lib.hid sm1
      have hX := hS1.trans gX
      have bx0 := (show Box2v (Wd.alloc (.cells #[.slice none 0 0, .slice none 0 0] 24)) Wd.heap.size (.slice none 0 0) (.slice none 0 0) from Box2v.new rfl).gr gX
      have nb : V6.heap.size ≤ Wd.heap.size := hS.size
      clear hS
      have hS := hX
      refine hK.out _ _ hS ?_
      clear hK K rm sm1 hS1 hX
      iterate 3 (first
        | (refine wpAnyHIn_take 15 (v := ?_) rfl (by kernel_rfl) (by kernel_rfl) (by kernel_rfl) (by decide +kernel) (fun _ _ _ h => h) (fun _ _ _ => trivial) (by rfl) (fun w' hSw => ?_) hS ?_; rotate_left 1; (focus (skip; go_simp; try with_reducible rfl)); simp only [Act.put, List.setIfInBounds_toArray, List.set_cons_zero, List.set_cons_succ])
        | (refine wpAnyHIn_take 16 (v := ?_) rfl (by kernel_rfl) (by kernel_rfl) (by kernel_rfl) (by decide +kernel) (fun _ _ _ h => h) (fun _ _ _ => trivial) (by rfl) (fun w' hSw => ?_) hS ?_; rotate_left 1; (focus (skip; go_simp; try with_reducible rfl)); simp only [Act.put, List.setIfInBounds_toArray, List.set_cons_zero, List.set_cons_succ])
        | (refine wpAnyHIn_take 17 (v := ?_) rfl (by kernel_rfl) (by kernel_rfl) (by kernel_rfl) (by decide +kernel) (fun _ _ _ h => h) (fun _ _ _ => trivial) (by rfl) (fun w' hSw => ?_) hS ?_; rotate_left 1; (focus (skip; go_simp; try with_reducible rfl)); simp only [Act.put, List.setIfInBounds_toArray, List.set_cons_zero, List.set_cons_succ]))
      refine wpAnyHIn_ready [19] (by kernel_rfl) (by simp) ?_
      refine AllHIn.cons rfl (by rfl) (fun K hK => ?_) AllHIn.nil
      obtain ⟨k0, k1, k2, k3⟩ := bx0
      go_simp
      have hS := (hS.setCell (p := ⟨Wd.heap.size, 0, none⟩) nb (.slice am M cm)).setCell (p := ⟨Wd.heap.size, 1, none⟩) nb (.slice bm M dm)
      refine hK.out _ _ hS ?_
      clear hK K
      iterate 1 (first
        | (refine wpAnyHIn_take 20 (v := ?_) rfl (by kernel_rfl) (by kernel_rfl) (by kernel_rfl) (by decide +kernel) (fun _ _ _ h => h) (fun _ _ _ => trivial) (by rfl) (fun w' hSw => ?_) hS ?_; rotate_left 1; (focus (skip; go_simp; try with_reducible rfl)); simp only [Act.put, List.setIfInBounds_toArray, List.set_cons_zero, List.set_cons_succ]))
      refine wpAnyHIn_done (by kernel_rfl) ?_ _
      have RM := Lib.hid (show RdI ((wX.setCell ⟨Wd.heap.size, 0, none⟩ (.slice am M cm)).setCell ⟨Wd.heap.size, 1, none⟩ (.slice bm M dm)) am M F from RM.out.put ⟨k0, k1, k2, k3⟩ _ _)
      have SM := Lib.hid (show RdI ((wX.setCell ⟨Wd.heap.size, 0, none⟩ (.slice am M cm)).setCell ⟨Wd.heap.size, 1, none⟩ (.slice bm M dm)) bm M G from SM.out.put ⟨k0, k1, k2, k3⟩ _ _)
      have hT1 := Gr.refl ((wX.setCell ⟨Wd.heap.size, 0, none⟩ (.slice am M cm)).setCell ⟨Wd.heap.size, 1, none⟩ (.slice bm M dm))
      have BM := Lib.hid (show Box2v ((wX.setCell ⟨Wd.heap.size, 0, none⟩ (.slice am M cm)).setCell ⟨Wd.heap.size, 1, none⟩ (.slice bm M dm)) Wd.heap.size (.slice am M cm) (.slice bm M dm) from Box2v.put ⟨k0, k1, k2, k3⟩ _ _)
      have RM := Lib.hid (RM.out.gr hT1)
      have SM := Lib.hid (SM.out.gr hT1)
      have G40 := Lib.hid (G6.out.trans hS)
      have BA := Lib.hid (BA.out.gr hS)
      have YA := Lib.hid (YA.out.gr hS)
      have ZA := Lib.hid (ZA.out.gr hS)
      obtain ⟨V40, hV40⟩ : ∃ V40, (wX.setCell ⟨Wd.heap.size, 0, none⟩ (.slice am M cm)).setCell ⟨Wd.heap.size, 1, none⟩ (.slice bm M dm) = V40 := ⟨_, rfl⟩
      rw [hV40] at BM RM SM G40 BA YA ZA
      (try rw [hV40])
      clear hS hT1 hV40
      (try clear ba_0 ba_1 ya_0 ya_1 za_0 za_1 bs_0 bs_1 yb_0 yb_1 zb_0 zb_1)
      (try clear ba_0 ba_1); obtain ⟨ba_0, ba_1⟩ := BA.out; (try clear ya_0 ya_1); obtain ⟨ya_0, ya_1, _⟩ := YA.out; (try clear za_0 za_1); obtain ⟨za_0, za_1, _⟩ := ZA.out; (try clear bm_0 bm_1); obtain ⟨bm_0, bm_1, _⟩ := BM.out
      go_wp2_with (first
        | (go_at_call 6; (with_reducible refine (HV.out _ _ _ _ _ RM.out SM.out).mono ?_); rintro e v41 ⟨rfl, g41⟩; have G41 := Lib.hid (G40.out.trans g41); have BA := Lib.hid (BA.out.gr g41); have YA := Lib.hid (YA.out.gr g41); have ZA := Lib.hid (ZA.out.gr g41); have BM := Lib.hid (BM.out.gr g41); have RM := Lib.hid (RM.out.gr g41); have SM := Lib.hid (SM.out.gr g41); (try clear ba_0 ba_1); obtain ⟨ba_0, ba_1⟩ := BA.out; (try clear ya_0 ya_1); obtain ⟨ya_0, ya_1, _⟩ := YA.out; (try clear za_0 za_1); obtain ⟨za_0, za_1, _⟩ := ZA.out; (try clear bm_0 bm_1); obtain ⟨bm_0, bm_1, _⟩ := BM.out; clear g41)
        | (go_at_call 7; refine (Awake_any _).mono ?_; rintro e w9 ⟨rfl, g9⟩))
      go_ret
      exact ⟨rfl, G41.out.trans g9⟩
  | true =>
    rw [hv] at HV
    have V3 := vO_iff.1 hv
    have MM := mg_mor (i := i) (j := j) hf hg V.noise.pos V.signal.pos hij hjn
    rw [eM] at MM
    have SM := ss_bd V3
    have SM2 : 0 < 2 * sm (mgF f i j) M * sm (mgF g i j) M := by rw [Int.mul_assoc]; clear wx1 wx2 wy1 wy2 q1 q2 q3 q4 q5 q6 q7 q8; omega
    have L1 := red_le SM2 SS2 MM.1
    have L2 := red_le SM.1 SS.1 MM.2
    have u1 := ar_small V hf hg
    have u2 := ap_small V hf hg
    have u3 := ar_small V3 F1 G1'
    have u4 := ap_small V3 F1 G1'
    have k1 := sml_red u1.1 u1.2.1 u1.2.2.1 u1.2.2.2
    have k2 := sml_red u2.1 u2.2.1 u2.2.2.1 u2.2.2.2
    have k3 := sml_red u3.1 u3.2.1 u3.2.2.1 u3.2.2.2
    have k4 := sml_red u4.1 u4.2.1 u4.2.2.1 u4.2.2.2
    obtain ⟨w1a, w1b⟩ := sml_mul k3 k1
    obtain ⟨w2a, w2b⟩ := sml_mul k1 k3
    obtain ⟨w3a, w3b⟩ := sml_mul k4 k2
    obtain ⟨w4a, w4b⟩ := sml_mul k2 k4
    have H5 := Lib.hid (fun w1 (k : Gr w w1) ax ay (cx cy : Nat) (rx : RdI w1 ax M (mgF f i j)) (ry : RdI w1 ay M (mgF g i j)) => told_any ax ay M cx cy (mgF f i j) (mgF g i j) none 0 0 (fun _ => 0) w1 rx ry (.inl rfl) F1 G1' V3 (by decide) (hT.gr k))
    clear hr hs ht3 hf hg V V2 hT SS SS2 F1 G1' hv eM hij hjn MM SM SM2 u1 u2 u3 u4 k1 k2 k3 k4 V3
    generalize rN (arA f g n) (2 * sm f n * sm g n) = P1 at *
    generalize rD (arA f g n) (2 * sm f n * sm g n) = Q1 at *
    generalize rN (apP f g n) (sm f n * sm g n) = P2 at *
    generalize rD (apP f g n) (sm f n * sm g n) = Q2 at *
    generalize mgF f i j = F at *
    generalize mgF g i j = G at *
    generalize rN (arA F G M) (2 * sm F M * sm G M) = P3 at *
    generalize rD (arA F G M) (2 * sm F M * sm G M) = Q3 at *
    generalize rN (apP F G M) (sm F M * sm G M) = P4 at *
    generalize rD (apP F G M) (sm F M * sm G M) = Q4 at *
    go_enter Tryz.func3, Tryz.ntmps3
    go_wp2_with (first
      | (go_at_call 5; (with_reducible refine (HL.out _).mono ?_); rintro e v1 ⟨rfl, g1⟩; have G1 := Lib.hid (G0.out.trans g1); have BA := Lib.hid (BA.out.gr g1); (try clear ba_0 ba_1); obtain ⟨ba_0, ba_1⟩ := BA.out; clear g1)
      | (go_at_call 6; (with_reducible refine (CV.out _ G1.out).mono ?_); rintro e v2 ⟨rfl, g2⟩; have G2 := Lib.hid (G1.out.trans g2); have BA := Lib.hid (BA.out.gr g2); (try clear ba_0 ba_1); obtain ⟨ba_0, ba_1⟩ := BA.out; clear g2)
      | (go_at_call 8; (with_reducible refine (H1.out _ G2.out).mono ?_); rintro e v3 ⟨rfl, g3⟩; have gg := (((g3).alloc (.cells #[.int .i64 P1, .int .i64 Q1] 28))).alloc (.cells #[.int .i64 P2, .int .i64 Q2] 28); obtain ⟨V3, hV3⟩ : ∃ V3, (v3.alloc (.cells #[.int .i64 P1, .int .i64 Q1] 28)).alloc (.cells #[.int .i64 P2, .int .i64 Q2] 28) = V3 := ⟨_, rfl⟩; rw [hV3] at gg; have G3 := Lib.hid (G2.out.trans gg); have BA := Lib.hid (BA.out.gr gg); have YA := Lib.hid (show Box2 V3 v3.heap.size P1 Q1 by rw [← hV3]; exact (Box2.new rfl).gr ((Gr.refl _).alloc _)); have ZA := Lib.hid (show Box2 V3 (v3.heap.size + 1) P2 Q2 by rw [← hV3]; exact Box2.new (by simp)); (try clear ba_0 ba_1); obtain ⟨ba_0, ba_1⟩ := BA.out; (try clear ya_0 ya_1); obtain ⟨ya_0, ya_1, _⟩ := YA.out; (try clear za_0 za_1); obtain ⟨za_0, za_1, _⟩ := ZA.out; clear g3 gg)
      | (go_at_call 9; (with_reducible refine (H2.out _ G3.out).mono ?_); rintro e v4 ⟨a4x, c4x, a4y, c4y, rfl, r4, q4, g4⟩; have gg := (g4).alloc (.cells #[.slice a4x n c4x, .slice a4y n c4y] 24); obtain ⟨V4, hV4⟩ : ∃ V4, v4.alloc (.cells #[.slice a4x n c4x, .slice a4y n c4y] 24) = V4 := ⟨_, rfl⟩; rw [hV4] at gg; have G4 := Lib.hid (G3.out.trans gg); have BA := Lib.hid (BA.out.gr gg); have YA := Lib.hid (YA.out.gr gg); have ZA := Lib.hid (ZA.out.gr gg); have BS := Lib.hid (show Box2v V4 v4.heap.size (.slice a4x n c4x) (.slice a4y n c4y) by rw [← hV4]; exact Box2v.new rfl); have RBS := Lib.hid (show RdI V4 a4x n g by rw [← hV4]; exact r4.gr ((Gr.refl _).alloc _)); have SBS := Lib.hid (show RdI V4 a4y n f by rw [← hV4]; exact q4.gr ((Gr.refl _).alloc _)); (try clear ba_0 ba_1); obtain ⟨ba_0, ba_1⟩ := BA.out; (try clear ya_0 ya_1); obtain ⟨ya_0, ya_1, _⟩ := YA.out; (try clear za_0 za_1); obtain ⟨za_0, za_1, _⟩ := ZA.out; (try clear bs_0 bs_1); obtain ⟨bs_0, bs_1, _⟩ := BS.out; clear g4 gg)
      | (go_at_call 6; (with_reducible refine (H3.out _ _ _ _ _ RBS.out SBS.out).mono ?_); rintro e v5 ⟨rfl, g5⟩; have G5 := Lib.hid (G4.out.trans g5); have BA := Lib.hid (BA.out.gr g5); have YA := Lib.hid (YA.out.gr g5); have ZA := Lib.hid (ZA.out.gr g5); have BS := Lib.hid (BS.out.gr g5); have RBS := Lib.hid (RBS.out.gr g5); have SBS := Lib.hid (SBS.out.gr g5); (try clear ba_0 ba_1); obtain ⟨ba_0, ba_1⟩ := BA.out; (try clear ya_0 ya_1); obtain ⟨ya_0, ya_1, _⟩ := YA.out; (try clear za_0 za_1); obtain ⟨za_0, za_1, _⟩ := ZA.out; (try clear bs_0 bs_1); obtain ⟨bs_0, bs_1, _⟩ := BS.out; clear g5)
      | (go_at_call 8; (with_reducible refine (H4.out _ G5.out _ _ _ _ RBS.out SBS.out).mono ?_); rintro e v6 ⟨rfl, g6⟩; have gg := (((g6).alloc (.cells #[.int .i64 P1, .int .i64 Q1] 28))).alloc (.cells #[.int .i64 P2, .int .i64 Q2] 28); obtain ⟨V6, hV6⟩ : ∃ V6, (v6.alloc (.cells #[.int .i64 P1, .int .i64 Q1] 28)).alloc (.cells #[.int .i64 P2, .int .i64 Q2] 28) = V6 := ⟨_, rfl⟩; rw [hV6] at gg; have G6 := Lib.hid (G5.out.trans gg); have BA := Lib.hid (BA.out.gr gg); have YA := Lib.hid (YA.out.gr gg); have ZA := Lib.hid (ZA.out.gr gg); have BS := Lib.hid (BS.out.gr gg); have RBS := Lib.hid (RBS.out.gr gg); have SBS := Lib.hid (SBS.out.gr gg); have YB := Lib.hid (show Box2 V6 v6.heap.size P1 Q1 by rw [← hV6]; exact (Box2.new rfl).gr ((Gr.refl _).alloc _)); have ZB := Lib.hid (show Box2 V6 (v6.heap.size + 1) P2 Q2 by rw [← hV6]; exact Box2.new (by simp)); (try clear ba_0 ba_1); obtain ⟨ba_0, ba_1⟩ := BA.out; (try clear ya_0 ya_1); obtain ⟨ya_0, ya_1, _⟩ := YA.out; (try clear za_0 za_1); obtain ⟨za_0, za_1, _⟩ := ZA.out; (try clear bs_0 bs_1); obtain ⟨bs_0, bs_1, _⟩ := BS.out; (try clear yb_0 yb_1); obtain ⟨yb_0, yb_1, _⟩ := YB.out; (try clear zb_0 zb_1); obtain ⟨zb_0, zb_1, _⟩ := ZB.out; clear g6 gg))
    refine (wpIn_wide (n := 3)).1 ?_
    refine wpIn_region_held (fun w' => Gr V6 w') 21 (by kernel_rfl) rfl rfl ?_
    have hS : Gr V6 V6.drew := (Gr.refl V6).drew
    generalize V6.drew = Wd at hS ⊢
    iterate 14 (first
      | (refine wpAnyHIn_take 0 (v := ?_) rfl (by kernel_rfl) (by kernel_rfl) (by kernel_rfl) (by decide +kernel) (fun _ _ _ h => h) (fun _ _ _ => trivial) (by rfl) (fun w' hSw => ?_) hS ?_; rotate_left 1; (focus (have z0 := hSw.cell ba_0; have z1 := hSw.cell ba_1; go_simp; try with_reducible rfl)); simp only [Act.put, List.setIfInBounds_toArray, List.set_cons_zero, List.set_cons_succ])
      | (refine wpAnyHIn_take 1 (v := ?_) rfl (by kernel_rfl) (by kernel_rfl) (by kernel_rfl) (by decide +kernel) (fun _ _ _ h => h) (fun _ _ _ => trivial) (by rfl) (fun w' hSw => ?_) hS ?_; rotate_left 1; (focus (have z0 := hSw.cell ba_0; have z1 := hSw.cell ba_1; go_simp; try with_reducible rfl)); simp only [Act.put, List.setIfInBounds_toArray, List.set_cons_zero, List.set_cons_succ])
      | (refine wpAnyHIn_take 2 (v := ?_) rfl (by kernel_rfl) (by kernel_rfl) (by kernel_rfl) (by decide +kernel) (fun _ _ _ h => h) (fun _ _ _ => trivial) (by rfl) (fun w' hSw => ?_) hS ?_; rotate_left 1; (focus (have z0 := hSw.cell ba_0; have z1 := hSw.cell ba_1; go_simp; try with_reducible rfl)); simp only [Act.put, List.setIfInBounds_toArray, List.set_cons_zero, List.set_cons_succ])
      | (refine wpAnyHIn_take 3 (v := ?_) rfl (by kernel_rfl) (by kernel_rfl) (by kernel_rfl) (by decide +kernel) (fun _ _ _ h => h) (fun _ _ _ => trivial) (by rfl) (fun w' hSw => ?_) hS ?_; rotate_left 1; (focus (have z0 := hSw.cell ba_0; have z1 := hSw.cell ba_1; go_simp; try with_reducible rfl)); simp only [Act.put, List.setIfInBounds_toArray, List.set_cons_zero, List.set_cons_succ])
      | (refine wpAnyHIn_take 4 (v := ?_) rfl (by kernel_rfl) (by kernel_rfl) (by kernel_rfl) (by decide +kernel) (fun _ _ _ h => h) (fun _ _ _ => trivial) (by rfl) (fun w' hSw => ?_) hS ?_; rotate_left 1; (focus (have z0 := hSw.cell ba_0; have z1 := hSw.cell ba_1; go_simp; try with_reducible rfl)); simp only [Act.put, List.setIfInBounds_toArray, List.set_cons_zero, List.set_cons_succ])
      | (refine wpAnyHIn_take 5 (v := ?_) rfl (by kernel_rfl) (by kernel_rfl) (by kernel_rfl) (by decide +kernel) (fun _ _ _ h => h) (fun _ _ _ => trivial) (by rfl) (fun w' hSw => ?_) hS ?_; rotate_left 1; (focus (have z0 := hSw.cell ba_0; have z1 := hSw.cell ba_1; go_simp; try with_reducible rfl)); simp only [Act.put, List.setIfInBounds_toArray, List.set_cons_zero, List.set_cons_succ])
      | (refine wpAnyHIn_take 6 (v := ?_) rfl (by kernel_rfl) (by kernel_rfl) (by kernel_rfl) (by decide +kernel) (fun _ _ _ h => h) (fun _ _ _ => trivial) (by rfl) (fun w' hSw => ?_) hS ?_; rotate_left 1; (focus (have z0 := hSw.cell ba_0; have z1 := hSw.cell ba_1; go_simp; try with_reducible rfl)); simp only [Act.put, List.setIfInBounds_toArray, List.set_cons_zero, List.set_cons_succ])
      | (refine wpAnyHIn_take 7 (v := ?_) rfl (by kernel_rfl) (by kernel_rfl) (by kernel_rfl) (by decide +kernel) (fun _ _ _ h => h) (fun _ _ _ => trivial) (by rfl) (fun w' hSw => ?_) hS ?_; rotate_left 1; (focus (have z0 := hSw.cell ba_0; have z1 := hSw.cell ba_1; go_simp; try with_reducible rfl)); simp only [Act.put, List.setIfInBounds_toArray, List.set_cons_zero, List.set_cons_succ])
      | (refine wpAnyHIn_take 8 (v := ?_) rfl (by kernel_rfl) (by kernel_rfl) (by kernel_rfl) (by decide +kernel) (fun _ _ _ h => h) (fun _ _ _ => trivial) (by rfl) (fun w' hSw => ?_) hS ?_; rotate_left 1; (focus (have z0 := hSw.cell ba_0; have z1 := hSw.cell ba_1; go_simp; try with_reducible rfl)); simp only [Act.put, List.setIfInBounds_toArray, List.set_cons_zero, List.set_cons_succ])
      | (refine wpAnyHIn_take 9 (v := ?_) rfl (by kernel_rfl) (by kernel_rfl) (by kernel_rfl) (by decide +kernel) (fun _ _ _ h => h) (fun _ _ _ => trivial) (by rfl) (fun w' hSw => ?_) hS ?_; rotate_left 1; (focus (have z0 := hSw.cell ba_0; have z1 := hSw.cell ba_1; go_simp; try with_reducible rfl)); simp only [Act.put, List.setIfInBounds_toArray, List.set_cons_zero, List.set_cons_succ])
      | (refine wpAnyHIn_take 10 (v := ?_) rfl (by kernel_rfl) (by kernel_rfl) (by kernel_rfl) (by decide +kernel) (fun _ _ _ h => h) (fun _ _ _ => trivial) (by rfl) (fun w' hSw => ?_) hS ?_; rotate_left 1; (focus (have z0 := hSw.cell ba_0; have z1 := hSw.cell ba_1; go_simp; try with_reducible rfl)); simp only [Act.put, List.setIfInBounds_toArray, List.set_cons_zero, List.set_cons_succ])
      | (refine wpAnyHIn_take 11 (v := ?_) rfl (by kernel_rfl) (by kernel_rfl) (by kernel_rfl) (by decide +kernel) (fun _ _ _ h => h) (fun _ _ _ => trivial) (by rfl) (fun w' hSw => ?_) hS ?_; rotate_left 1; (focus (have z0 := hSw.cell ba_0; have z1 := hSw.cell ba_1; go_simp; try with_reducible rfl)); simp only [Act.put, List.setIfInBounds_toArray, List.set_cons_zero, List.set_cons_succ])
      | (refine wpAnyHIn_take 12 (v := ?_) rfl (by kernel_rfl) (by kernel_rfl) (by kernel_rfl) (by decide +kernel) (fun _ _ _ h => h) (fun _ _ _ => trivial) (by rfl) (fun w' hSw => ?_) hS ?_; rotate_left 1; (focus (have z0 := hSw.cell ba_0; have z1 := hSw.cell ba_1; go_simp; try with_reducible rfl)); simp only [Act.put, List.setIfInBounds_toArray, List.set_cons_zero, List.set_cons_succ])
      | (refine wpAnyHIn_take 13 (v := ?_) rfl (by kernel_rfl) (by kernel_rfl) (by kernel_rfl) (by decide +kernel) (fun _ _ _ h => h) (fun _ _ _ => trivial) (by rfl) (fun w' hSw => ?_) hS ?_; rotate_left 1; (focus (have z0 := hSw.cell ba_0; have z1 := hSw.cell ba_1; go_simp; try with_reducible rfl)); simp only [Act.put, List.setIfInBounds_toArray, List.set_cons_zero, List.set_cons_succ]))
    refine wpAnyHIn_ready [14, 18] (by kernel_rfl) (by simp) ?_
    refine AllHIn.cons rfl (by rfl) (fun K hK => ?_) (AllHIn.cons rfl (by rfl) (fun K hK => ?_) AllHIn.nil)
    · go_simp
      refine ⟨trivial, ?_⟩
      refine (callsIn_wide.2 (H28.out _ (G6.out.trans (hS)))).mono ?_
      rintro e wX ⟨am, cm, bm, dm, rfl, rm, sm1, gX⟩
      have RM := Lib.hid rm
      have SM := Lib.hid sm1
      have hS : Gr V6 wX := hS.trans gX
      refine hK.out _ _ hS ?_
      clear hK K gX rm sm1
      iterate 3 (first
        | (refine wpAnyHIn_take 15 (v := ?_) rfl (by kernel_rfl) (by kernel_rfl) (by kernel_rfl) (by decide +kernel) (fun _ _ _ h => h) (fun _ _ _ => trivial) (by rfl) (fun w' hSw => ?_) hS ?_; rotate_left 1; (focus (skip; go_simp; try with_reducible rfl)); simp only [Act.put, List.setIfInBounds_toArray, List.set_cons_zero, List.set_cons_succ])
        | (refine wpAnyHIn_take 16 (v := ?_) rfl (by kernel_rfl) (by kernel_rfl) (by kernel_rfl) (by decide +kernel) (fun _ _ _ h => h) (fun _ _ _ => trivial) (by rfl) (fun w' hSw => ?_) hS ?_; rotate_left 1; (focus (skip; go_simp; try with_reducible rfl)); simp only [Act.put, List.setIfInBounds_toArray, List.set_cons_zero, List.set_cons_succ])
        | (refine wpAnyHIn_take 17 (v := ?_) rfl (by kernel_rfl) (by kernel_rfl) (by kernel_rfl) (by decide +kernel) (fun _ _ _ h => h) (fun _ _ _ => trivial) (by rfl) (fun w' hSw => ?_) hS ?_; rotate_left 1; (focus (skip; go_simp; try with_reducible rfl)); simp only [Act.put, List.setIfInBounds_toArray, List.set_cons_zero, List.set_cons_succ]))
      refine wpAnyHIn_ready [18] (by kernel_rfl) (by simp) ?_
      refine AllHIn.cons rfl (by rfl) (fun K hK => ?_) AllHIn.nil
      go_simp
      refine hK.out _ _ (hS.alloc _) ?_
      clear hK K
      refine wpAnyHIn_ready [19] (by kernel_rfl) (by simp) ?_
      refine AllHIn.cons rfl (by rfl) (fun K hK => ?_) AllHIn.nil
      go_simp
      refine hK.out _ _ (hS.alloc (.cells #[.slice am M cm, .slice bm M dm] 24)) ?_
      clear hK K
      have hS := hS.alloc (.cells #[.slice am M cm, .slice bm M dm] 24)
      have hT1 : Gr wX (wX.alloc (.cells #[.slice am M cm, .slice bm M dm] 24)) := (Gr.refl wX).alloc _
      iterate 1 (first
        | (refine wpAnyHIn_take 20 (v := ?_) rfl (by kernel_rfl) (by kernel_rfl) (by kernel_rfl) (by decide +kernel) (fun _ _ _ h => h) (fun _ _ _ => trivial) (by rfl) (fun w' hSw => ?_) hS ?_; rotate_left 1; (focus (skip; go_simp; try with_reducible rfl)); simp only [Act.put, List.setIfInBounds_toArray, List.set_cons_zero, List.set_cons_succ]))
      refine wpAnyHIn_done (by kernel_rfl) ?_ _
      have BM := Lib.hid (show Box2v (wX.alloc (.cells #[.slice am M cm, .slice bm M dm] 24)) wX.heap.size (.slice am M cm) (.slice bm M dm) from Box2v.new rfl)
      have RM := Lib.hid (RM.out.gr hT1)
      have SM := Lib.hid (SM.out.gr hT1)
      have G40 := Lib.hid (G6.out.trans hS)
      have BA := Lib.hid (BA.out.gr hS)
      have YA := Lib.hid (YA.out.gr hS)
      have ZA := Lib.hid (ZA.out.gr hS)
      obtain ⟨V40, hV40⟩ : ∃ V40, wX.alloc (.cells #[.slice am M cm, .slice bm M dm] 24) = V40 := ⟨_, rfl⟩
      rw [hV40] at BM RM SM G40 BA YA ZA
      (try rw [hV40])
      clear hS hT1 hV40
      (try clear ba_0 ba_1 ya_0 ya_1 za_0 za_1 bs_0 bs_1 yb_0 yb_1 zb_0 zb_1)
      (try clear ba_0 ba_1); obtain ⟨ba_0, ba_1⟩ := BA.out; (try clear ya_0 ya_1); obtain ⟨ya_0, ya_1, _⟩ := YA.out; (try clear za_0 za_1); obtain ⟨za_0, za_1, _⟩ := ZA.out; (try clear bm_0 bm_1); obtain ⟨bm_0, bm_1, _⟩ := BM.out
      go_wp2_with (first
        | (go_at_call 6; (with_reducible refine (HV.out _ _ _ _ _ RM.out SM.out).mono ?_); rintro e v41 ⟨rfl, g41⟩; have G41 := Lib.hid (G40.out.trans g41); have BA := Lib.hid (BA.out.gr g41); have YA := Lib.hid (YA.out.gr g41); have ZA := Lib.hid (ZA.out.gr g41); have BM := Lib.hid (BM.out.gr g41); have RM := Lib.hid (RM.out.gr g41); have SM := Lib.hid (SM.out.gr g41); (try clear ba_0 ba_1); obtain ⟨ba_0, ba_1⟩ := BA.out; (try clear ya_0 ya_1); obtain ⟨ya_0, ya_1, _⟩ := YA.out; (try clear za_0 za_1); obtain ⟨za_0, za_1, _⟩ := ZA.out; (try clear bm_0 bm_1); obtain ⟨bm_0, bm_1, _⟩ := BM.out; clear g41)
        | (go_at_call 8; (with_reducible refine (H5.out _ G41.out _ _ _ _ RM.out SM.out).mono ?_); rintro e v42 ⟨rfl, g42⟩; have gg := (((g42).alloc (.cells #[.int .i64 P3, .int .i64 Q3] 28))).alloc (.cells #[.int .i64 P4, .int .i64 Q4] 28); obtain ⟨V42, hV42⟩ : ∃ V42, (v42.alloc (.cells #[.int .i64 P3, .int .i64 Q3] 28)).alloc (.cells #[.int .i64 P4, .int .i64 Q4] 28) = V42 := ⟨_, rfl⟩; rw [hV42] at gg; have G42 := Lib.hid (G41.out.trans gg); have BA := Lib.hid (BA.out.gr gg); have YA := Lib.hid (YA.out.gr gg); have ZA := Lib.hid (ZA.out.gr gg); have BM := Lib.hid (BM.out.gr gg); have RM := Lib.hid (RM.out.gr gg); have SM := Lib.hid (SM.out.gr gg); have YC := Lib.hid (show Box2 V42 v42.heap.size P3 Q3 by rw [← hV42]; exact (Box2.new rfl).gr ((Gr.refl _).alloc _)); have ZC := Lib.hid (show Box2 V42 (v42.heap.size + 1) P4 Q4 by rw [← hV42]; exact Box2.new (by simp)); (try clear ba_0 ba_1); obtain ⟨ba_0, ba_1⟩ := BA.out; (try clear ya_0 ya_1); obtain ⟨ya_0, ya_1, _⟩ := YA.out; (try clear za_0 za_1); obtain ⟨za_0, za_1, _⟩ := ZA.out; (try clear bm_0 bm_1); obtain ⟨bm_0, bm_1, _⟩ := BM.out; (try clear yc_0 yc_1); obtain ⟨yc_0, yc_1, _⟩ := YC.out; (try clear zc_0 zc_1); obtain ⟨zc_0, zc_1, _⟩ := ZC.out; clear g42 gg)
        | (go_at_call 7; refine (Awake_any _).mono ?_; rintro e w9 ⟨rfl, g9⟩))
      go_ret
      exact ⟨rfl, G42.out.trans g9⟩
    · go_simp
      have hS1 := hS.alloc (.cells #[.slice none 0 0, .slice none 0 0] 24)
      refine hK.out _ _ hS1 ?_
      clear hK K
      refine wpAnyHIn_ready [14] (by kernel_rfl) (by simp) ?_
      refine AllHIn.cons rfl (by rfl) (fun K hK => ?_) AllHIn.nil
      go_simp
      refine ⟨trivial, ?_⟩
      refine (callsIn_wide.2 (H28.out _ (G6.out.trans (hS1)))).mono ?_
      rintro e wX ⟨am, cm, bm, dm, rfl, rm, sm1, gX⟩
      have RM := Lib.hid rm
      have SM := Lib.hid sm1
      have hX := hS1.trans gX
      have bx0 := (show Box2v (Wd.alloc (.cells #[.slice none 0 0, .slice none 0 0] 24)) Wd.heap.size (.slice none 0 0) (.slice none 0 0) from Box2v.new rfl).gr gX
      have nb : V6.heap.size ≤ Wd.heap.size := hS.size
      clear hS
      have hS := hX
      refine hK.out _ _ hS ?_
      clear hK K rm sm1 hS1 hX
      iterate 3 (first
        | (refine wpAnyHIn_take 15 (v := ?_) rfl (by kernel_rfl) (by kernel_rfl) (by kernel_rfl) (by decide +kernel) (fun _ _ _ h => h) (fun _ _ _ => trivial) (by rfl) (fun w' hSw => ?_) hS ?_; rotate_left 1; (focus (skip; go_simp; try with_reducible rfl)); simp only [Act.put, List.setIfInBounds_toArray, List.set_cons_zero, List.set_cons_succ])
        | (refine wpAnyHIn_take 16 (v := ?_) rfl (by kernel_rfl) (by kernel_rfl) (by kernel_rfl) (by decide +kernel) (fun _ _ _ h => h) (fun _ _ _ => trivial) (by rfl) (fun w' hSw => ?_) hS ?_; rotate_left 1; (focus (skip; go_simp; try with_reducible rfl)); simp only [Act.put, List.setIfInBounds_toArray, List.set_cons_zero, List.set_cons_succ])
        | (refine wpAnyHIn_take 17 (v := ?_) rfl (by kernel_rfl) (by kernel_rfl) (by kernel_rfl) (by decide +kernel) (fun _ _ _ h => h) (fun _ _ _ => trivial) (by rfl) (fun w' hSw => ?_) hS ?_; rotate_left 1; (focus (skip; go_simp; try with_reducible rfl)); simp only [Act.put, List.setIfInBounds_toArray, List.set_cons_zero, List.set_cons_succ]))
      refine wpAnyHIn_ready [19] (by kernel_rfl) (by simp) ?_
      refine AllHIn.cons rfl (by rfl) (fun K hK => ?_) AllHIn.nil
      obtain ⟨k0, k1, k2, k3⟩ := bx0
      go_simp
      have hS := (hS.setCell (p := ⟨Wd.heap.size, 0, none⟩) nb (.slice am M cm)).setCell (p := ⟨Wd.heap.size, 1, none⟩) nb (.slice bm M dm)
      refine hK.out _ _ hS ?_
      clear hK K
      iterate 1 (first
        | (refine wpAnyHIn_take 20 (v := ?_) rfl (by kernel_rfl) (by kernel_rfl) (by kernel_rfl) (by decide +kernel) (fun _ _ _ h => h) (fun _ _ _ => trivial) (by rfl) (fun w' hSw => ?_) hS ?_; rotate_left 1; (focus (skip; go_simp; try with_reducible rfl)); simp only [Act.put, List.setIfInBounds_toArray, List.set_cons_zero, List.set_cons_succ]))
      refine wpAnyHIn_done (by kernel_rfl) ?_ _
      have RM := Lib.hid (show RdI ((wX.setCell ⟨Wd.heap.size, 0, none⟩ (.slice am M cm)).setCell ⟨Wd.heap.size, 1, none⟩ (.slice bm M dm)) am M F from RM.out.put ⟨k0, k1, k2, k3⟩ _ _)
      have SM := Lib.hid (show RdI ((wX.setCell ⟨Wd.heap.size, 0, none⟩ (.slice am M cm)).setCell ⟨Wd.heap.size, 1, none⟩ (.slice bm M dm)) bm M G from SM.out.put ⟨k0, k1, k2, k3⟩ _ _)
      have hT1 := Gr.refl ((wX.setCell ⟨Wd.heap.size, 0, none⟩ (.slice am M cm)).setCell ⟨Wd.heap.size, 1, none⟩ (.slice bm M dm))
      have BM := Lib.hid (show Box2v ((wX.setCell ⟨Wd.heap.size, 0, none⟩ (.slice am M cm)).setCell ⟨Wd.heap.size, 1, none⟩ (.slice bm M dm)) Wd.heap.size (.slice am M cm) (.slice bm M dm) from Box2v.put ⟨k0, k1, k2, k3⟩ _ _)
      have RM := Lib.hid (RM.out.gr hT1)
      have SM := Lib.hid (SM.out.gr hT1)
      have G40 := Lib.hid (G6.out.trans hS)
      have BA := Lib.hid (BA.out.gr hS)
      have YA := Lib.hid (YA.out.gr hS)
      have ZA := Lib.hid (ZA.out.gr hS)
      obtain ⟨V40, hV40⟩ : ∃ V40, (wX.setCell ⟨Wd.heap.size, 0, none⟩ (.slice am M cm)).setCell ⟨Wd.heap.size, 1, none⟩ (.slice bm M dm) = V40 := ⟨_, rfl⟩
      rw [hV40] at BM RM SM G40 BA YA ZA
      (try rw [hV40])
      clear hS hT1 hV40
      (try clear ba_0 ba_1 ya_0 ya_1 za_0 za_1 bs_0 bs_1 yb_0 yb_1 zb_0 zb_1)
      (try clear ba_0 ba_1); obtain ⟨ba_0, ba_1⟩ := BA.out; (try clear ya_0 ya_1); obtain ⟨ya_0, ya_1, _⟩ := YA.out; (try clear za_0 za_1); obtain ⟨za_0, za_1, _⟩ := ZA.out; (try clear bm_0 bm_1); obtain ⟨bm_0, bm_1, _⟩ := BM.out
      go_wp2_with (first
        | (go_at_call 6; (with_reducible refine (HV.out _ _ _ _ _ RM.out SM.out).mono ?_); rintro e v41 ⟨rfl, g41⟩; have G41 := Lib.hid (G40.out.trans g41); have BA := Lib.hid (BA.out.gr g41); have YA := Lib.hid (YA.out.gr g41); have ZA := Lib.hid (ZA.out.gr g41); have BM := Lib.hid (BM.out.gr g41); have RM := Lib.hid (RM.out.gr g41); have SM := Lib.hid (SM.out.gr g41); (try clear ba_0 ba_1); obtain ⟨ba_0, ba_1⟩ := BA.out; (try clear ya_0 ya_1); obtain ⟨ya_0, ya_1, _⟩ := YA.out; (try clear za_0 za_1); obtain ⟨za_0, za_1, _⟩ := ZA.out; (try clear bm_0 bm_1); obtain ⟨bm_0, bm_1, _⟩ := BM.out; clear g41)
        | (go_at_call 8; (with_reducible refine (H5.out _ G41.out _ _ _ _ RM.out SM.out).mono ?_); rintro e v42 ⟨rfl, g42⟩; have gg := (((g42).alloc (.cells #[.int .i64 P3, .int .i64 Q3] 28))).alloc (.cells #[.int .i64 P4, .int .i64 Q4] 28); obtain ⟨V42, hV42⟩ : ∃ V42, (v42.alloc (.cells #[.int .i64 P3, .int .i64 Q3] 28)).alloc (.cells #[.int .i64 P4, .int .i64 Q4] 28) = V42 := ⟨_, rfl⟩; rw [hV42] at gg; have G42 := Lib.hid (G41.out.trans gg); have BA := Lib.hid (BA.out.gr gg); have YA := Lib.hid (YA.out.gr gg); have ZA := Lib.hid (ZA.out.gr gg); have BM := Lib.hid (BM.out.gr gg); have RM := Lib.hid (RM.out.gr gg); have SM := Lib.hid (SM.out.gr gg); have YC := Lib.hid (show Box2 V42 v42.heap.size P3 Q3 by rw [← hV42]; exact (Box2.new rfl).gr ((Gr.refl _).alloc _)); have ZC := Lib.hid (show Box2 V42 (v42.heap.size + 1) P4 Q4 by rw [← hV42]; exact Box2.new (by simp)); (try clear ba_0 ba_1); obtain ⟨ba_0, ba_1⟩ := BA.out; (try clear ya_0 ya_1); obtain ⟨ya_0, ya_1, _⟩ := YA.out; (try clear za_0 za_1); obtain ⟨za_0, za_1, _⟩ := ZA.out; (try clear bm_0 bm_1); obtain ⟨bm_0, bm_1, _⟩ := BM.out; (try clear yc_0 yc_1); obtain ⟨yc_0, yc_1, _⟩ := YC.out; (try clear zc_0 zc_1); obtain ⟨zc_0, zc_1, _⟩ := ZC.out; clear g42 gg)
        | (go_at_call 7; refine (Awake_any _).mono ?_; rintro e w9 ⟨rfl, g9⟩))
      go_ret
      exact ⟨rfl, G42.out.trans g9⟩

set_option maxHeartbeats 16000000 in
set_option maxRecDepth 100000 in
theorem top_walk (a b : Option Addr) (n c m d : Nat) (f g : Nat → Int) (a3 : Option Addr) (q c3 : Nat) (h : Nat → Int) (X Y : Int) (w : World) (_hn : n ≤ 9223372036854775807) (_hm : m ≤ 9223372036854775807) (_nc : n ≤ c) (_cl : c ≤ maxLen) (_md : m ≤ d) (_dl : d ≤ maxLen) (_fz : ∀ i, n ≤ i → f i = 0) (_gz : ∀ i, m ≤ i → g i = 0) (hr : RdI w a n f) (hs : RdI w b m g) (_hq3 : q ≤ 9223372036854775807) (_qc3 : q ≤ c3) (_cl3 : c3 ≤ maxLen) (ht3 : RdI w a3 q h) (wX : (Lit.int .u8 X).wf = true) (wY : (Lit.int .u8 Y).wf = true) (hT : Tab w) :
    Calls Tryz.prog 3 #[.agg #[.slice a n c, .slice b m d], .slice a3 q c3, .int .u8 X, .int .u8 Y] w (RetB true w) := by
  obtain ⟨x, rfl, hx⟩ := wf8 wX
  obtain ⟨y, rfl, hy⟩ := wf8 wY
  obtain ⟨X0, hX0⟩ : ∃ X0, w.alloc (.cells #[.slice a n c, .slice b m d] 24) = X0 := ⟨_, rfl⟩
  have G0 := Lib.hid (show Gr w X0 by rw [← hX0]; exact (Gr.refl w).alloc _)
  have BA := Lib.hid (show BoxO X0 w.heap.size (.slice a n c) (.slice b m d) by rw [← hX0]; exact BoxO.new rfl)
  obtain ⟨ba_0, ba_1⟩ := BA.out
  have HL := Lib.hid (fun w1 => Long_any a b n c m d w1)
  clear _hn _hm _nc _cl _md _dl _qc3 _cl3 _hq3 wX wY
  by_cases l0 : lgO n m = true
  · rw [l0] at HL
    clear hr hs l0 ht3 hT _fz _gz
    go_enter Tryz.func3, Tryz.ntmps3
    go_wp2_with (first
      | (go_at_call 5; (with_reducible refine (HL.out _).mono ?_); rintro e v1 ⟨rfl, g1⟩; have G1 := Lib.hid (G0.out.trans g1); have BA := Lib.hid (BA.out.gr g1); (try clear ba_0 ba_1); obtain ⟨ba_0, ba_1⟩ := BA.out; clear g1)
      | (go_at_call 7; refine (Awake_any _).mono ?_; rintro e w9 ⟨rfl, g9⟩))
    go_ret
    exact ⟨rfl, G1.out.trans g9⟩
  rw [Bool.not_eq_true] at l0
  rw [l0] at HL
  have l60 := lgO_false.1 l0
  by_cases hq : 60 < q
  · have i1 : (60 : Int) < (q : Int) := by omega
    have i2 : (q : Int) > 60 := by omega
    clear hr hs l0 ht3 hT _fz _gz l60
    go_enter Tryz.func3, Tryz.ntmps3
    go_wp2_with (first
      | (go_at_call 5; (with_reducible refine (HL.out _).mono ?_); rintro e v1 ⟨rfl, g1⟩; have G1 := Lib.hid (G0.out.trans g1); have BA := Lib.hid (BA.out.gr g1); (try clear ba_0 ba_1); obtain ⟨ba_0, ba_1⟩ := BA.out; clear g1)
      | (go_at_call 7; refine (Awake_any _).mono ?_; rintro e w9 ⟨rfl, g9⟩))
    go_ret
    exact ⟨rfl, G1.out.trans g9⟩
  have i1 : ¬ (60 : Int) < (q : Int) := by omega
  have i2 : ¬ (q : Int) > 60 := by omega
  have CV := Lib.hid (fun w1 (k : Gr w w1) => refValid_any a b n c m d f g w1 (by omega) (by omega) (hr.gr k) (hs.gr k))
  cases hv : vO n m f g with
  | false =>
    rw [hv] at CV
    clear hr hs l0 ht3 hT _fz _gz l60 hq hv
    go_enter Tryz.func3, Tryz.ntmps3
    go_wp2_with (first
      | (go_at_call 5; (with_reducible refine (HL.out _).mono ?_); rintro e v1 ⟨rfl, g1⟩; have G1 := Lib.hid (G0.out.trans g1); have BA := Lib.hid (BA.out.gr g1); (try clear ba_0 ba_1); obtain ⟨ba_0, ba_1⟩ := BA.out; clear g1)
      | (go_at_call 6; (with_reducible refine (CV.out _ G1.out).mono ?_); rintro e v2 ⟨rfl, g2⟩; have G2 := Lib.hid (G1.out.trans g2); have BA := Lib.hid (BA.out.gr g2); (try clear ba_0 ba_1); obtain ⟨ba_0, ba_1⟩ := BA.out; clear g2)
      | (go_at_call 7; refine (Awake_any _).mono ?_; rintro e w9 ⟨rfl, g9⟩))
    go_ret
    exact ⟨rfl, G2.out.trans g9⟩
  | true =>
  have V := vO_iff.1 hv
  obtain rfl := V.same
  exact top_core a b n c d f g a3 q c3 h x y w hr hs ht3 (nn_all2 V.noise _fz) (nn_all2 V.signal _gz) V (by omega) hx hy hT

end Go.Proofs.YtohcnicadbpbbaaGreatDoor
