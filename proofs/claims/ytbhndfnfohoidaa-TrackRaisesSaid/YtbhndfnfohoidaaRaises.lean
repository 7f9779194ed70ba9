/- Proved: TrackRaises returns true at all arguments, which read afterwards as before. Conditions: none. -/
import Derived.Test.YtbhndfnfohoidaaW39
import Derived.Test.YtbhndfnfohoidaaW41
import Derived.Test.YtbhndfnfohoidaaW48
import Derived.Test.YtbhndfnfohoidaaW43
import Derived.Test.YtbhndfnfohoidaaW26
import Derived.Test.YtbhndfnfohoidaaW28
import Derived.Test.YtbhndfnfohoidaaP8
import Derived.ProofKit
import Derived.OpenShut
import Derived.ShutString
import Derived.ChangeOld
import Derived.Below
namespace Go.Proofs.Ytbhndfnfohoidaa.trackRaises
open Go.ChangeShapes Go.WideShapes Go.ChangeAt Go.RowKit Go.Firn
open Go.ChangeMaps (open_string shut_string)

theorem own : ownKnob Try.prog.godebug = none := by kernel_rfl
theorem laidOut : laidOutB Try.prog = true := by kernel_rfl

theorem ms_out {n : Nat} {f g : Nat → Int} {err : Int} {w w' : World} {e : Ending} (h : RetMs (pairs n f g) err w e w') : ∃ a c, e = .returned (.tuple #[.slice a n c, .int .i64 err]) ∧ n ≤ c ∧ c ≤ maxLen ∧ RdM w' a n f g ∧ Gr w w' := by
  obtain ⟨a, c, e1, e2, e3, e4, e5⟩ := h
  rw [pairs_length] at e1 e2 e4
  exact ⟨a, c, e1, e2, e3, e4.congr (fun i hi => ⟨px_pairs f g hi, py_pairs f g hi⟩), e5⟩
/-- What the program tells of valid points: the least cost, the least width, the median slope. -/
theorem told (n : Nat) (X Y : Nat → Int) (V : VP n X Y) {q : Nat × Nat} (hq : bst n X Y (prs X n) = some q) :
    (∀ w1 a c, RdM w1 a n X Y → Calls Try.prog 19 #[.slice a n c] w1 (RetRE (pN n X Y q) (pE n X Y q) 0 w1)) ∧
    (∀ w1 a c, RdM w1 a n X Y → Calls Try.prog 21 #[.slice a n c] w1 (RetRE (witS X Y (wits n X)).N (witS X Y (wits n X)).D 0 w1)) ∧
    (∀ w1 a c, RdM w1 a n X Y → Calls Try.prog 50 #[.slice a n c] w1 (RetRE (med (sls X Y (prs X n))).1 (med (sls X Y (prs X n))).2 0 w1)) := by
  have n60 : n ≤ 1000 := by have := V.few; omega
  have hv := vP_iff.2 V
  refine ⟨fun w1 a c rd => ?_, fun w1 a c rd => ?_, fun w1 a c rd => ?_⟩
  · have h := Least_any a n c X Y w1 n60 rd
    have e1 : leN n X Y = pN n X Y q := by unfold leN; rw [hv, hq]; rfl
    have e2 : leD n X Y = pE n X Y q := by unfold leD; rw [hv, hq]; rfl
    rw [e1, e2, leE_ok V] at h
    exact h
  · have h := Narrowest_any a n c X Y w1 n60 rd
    unfold naN naD naE at h
    rw [hv] at h
    exact h
  · obtain ⟨b, o, e, _⟩ := rd.at (show 0 < n by have := V.two; omega)
    subst e
    exact Slope_any b o n c X Y V w1 rd

set_option maxHeartbeats 4000000 in
set_option maxRecDepth 100000 in
theorem walk (a : Option Addr) (n c : Nat) (X Y : Nat → Int) (s u : Int) (w : World) (hn : n ≤ 9223372036854775807) (hr : RdM w a n X Y) :
    Calls Try.prog 13 #[.slice a n c, .int .i64 s, .int .i64 u] w (RetB true w) := by
  have HL := Lib.hid (fun w1 => Long_any a n c w1 hn)
  have G0 := Lib.hid (Gr.refl w)
  by_cases h1 : 60 < n
  · have e1 : decide (60 < n) = true := by simpa using h1
    rw [e1] at HL
    clear e1
    go_enter Try.func13, Try.ntmps13
    go_wp2_with (first
      | (go_at_call 15; refine (HL.out _).mono ?_; rintro e w' ⟨rfl, rfl⟩)
      | (go_at_call 16; refine (Awake_any _).mono ?_; rintro e w6 ⟨rfl, hg11⟩))
    go_ret
    exact ⟨rfl, hg11⟩
  have e1 : decide (60 < n) = false := by simpa using h1
  rw [e1] at HL
  have n60 : n ≤ 1000 := by omega
  have CV := Lib.hid (fun w1 (g : Gr w w1) => refValid_any a n c X Y w1 n60 (hr.gr g))
  cases hv : vP n X Y with
  | false =>
    rw [hv] at CV
    clear e1 h1 hr hv hn
    go_enter Try.func13, Try.ntmps13
    go_wp2_with (first
      | (go_at_call 15; refine (HL.out _).mono ?_; rintro e w' ⟨rfl, rfl⟩)
      | (go_at_call 29; refine (CV.out _ G0.out).mono ?_; rintro e w1 ⟨rfl, g1⟩; have G1 := Lib.hid (G0.out.trans g1); clear g1)
      | (go_at_call 16; refine (Awake_any _).mono ?_; rintro e w6 ⟨rfl, hg11⟩))
    go_ret
    exact ⟨rfl, G1.out.trans hg11⟩
  | true =>
  rw [hv] at CV
  have V := vP_iff.1 hv
  obtain ⟨q, hq, hp⟩ := bst_some V
  obtain ⟨t1, t2, t3⟩ := told n X Y V hq
  have TV : VP n (ng X) Y := turned_valid V
  obtain ⟨q1, hq1, _⟩ := bst_some TV
  obtain ⟨t4, t5, t6⟩ := told n (ng X) Y TV hq1
  obtain ⟨k1, k2⟩ := lik_cost V TV hq hq1 (turned_lik n X Y) (turned_back n X Y)
  obtain ⟨k3, k4⟩ := lik_width V TV (turned_lik n X Y) (turned_back n X Y)
  rw [k1, k2] at t4
  rw [k3, k4] at t5
  have hpr := prs_pr (X := X) (Nat.le_refl n)
  have hne : sls X Y (prs X n) ≠ [] := fun e => prs_ne V (List.map_eq_nil_iff.1 e)
  have MB : Sl (med (sls X Y (prs X n))) := by
    obtain ⟨q, hq, e⟩ := List.mem_map.1 (med_mem hne)
    rw [show med (sls X Y (prs X n)) = slp X Y q from e.symm]
    exact slp_rd V.ok (hpr q hq)
  have TM := Lib.hid (show (prs X n).length % 2 = 1 → (med (sls (ng X) Y (prs (ng X) n))).1 = -(med (sls X Y (prs X n))).1 ∧ (med (sls (ng X) Y (prs (ng X) n))).2 = (med (sls X Y (prs X n))).2 from fun h => by
    have e := turned_med V h
    rw [show med (sls (ng X) Y (prs (ng X) n)) = ngS (med (sls X Y (prs X n))) from e]
    exact ⟨rfl, rfl⟩)
  have C19 := Lib.hid (fun w1 (g : Gr w w1) => t1 w1 a c (hr.gr g))
  have C21 := Lib.hid (fun w1 (g : Gr w w1) => t2 w1 a c (hr.gr g))
  have C50 := Lib.hid (fun w1 (g : Gr w w1) => t3 w1 a c (hr.gr g))
  have T19 := Lib.hid t4
  have T21 := Lib.hid t5
  have T50 := Lib.hid t6
  have C48 := Lib.hid (show ∀ w1, Gr w w1 → Calls Try.prog 48 #[.slice a n c] w1 (fun e w' => ∃ a1 c1, e = .returned (.tuple #[.slice a1 n c1, .int .i64 0]) ∧ n ≤ c1 ∧ c1 ≤ maxLen ∧ RdM w' a1 n (ng X) Y ∧ Gr w1 w') from fun w1 g => by
    have h := Turned_any a n c X Y w1 n60 (hr.gr g)
    rw [show vE n X Y = 0 by unfold vE; rw [hv]; rfl] at h
    exact h.mono fun e w' k => ms_out k)
  have T48 := Lib.hid (show ∀ w1 a1 c1, RdM w1 a1 n (ng X) Y → Calls Try.prog 48 #[.slice a1 n c1] w1 (fun e w' => ∃ a1 c1, e = .returned (.tuple #[.slice a1 n c1, .int .i64 0]) ∧ n ≤ c1 ∧ c1 ≤ maxLen ∧ RdM w' a1 n X Y ∧ Gr w1 w') from fun w1 a1 c1 rd => by
    have h := Turned_any a1 n c1 (ng X) Y w1 n60 rd
    rw [show vE n (ng X) Y = 0 by unfold vE; rw [vP_iff.2 TV]; rfl] at h
    refine h.mono fun e w' k => ?_
    obtain ⟨a2, c2, e1, e2, e3, e4, e5⟩ := ms_out k
    exact ⟨a2, c2, e1, e2, e3, e4.congr (fun i _ => ⟨by show - -X i = X i; omega, rfl⟩), e5⟩)
  have C53 := Lib.hid (fun w1 a1 c1 (g : Gr w w1) (rd : RdM w1 a1 n X Y) => SamePoints_t a1 a n c1 c X Y w1 (by omega) rd (hr.gr g))
  have RE : raE n X Y s u = 2 ∨ (raE n X Y s u = 0 ∧ raB n X Y s u = true) := by
    unfold raE
    rw [hv]
    cases raB n X Y s u <;> simp
  have C49 := Lib.hid (fun w1 (g : Gr w w1) => Raised_own a n c X Y s u w1 n60 (hr.gr g))
  have R50 := Lib.hid (show raB n X Y s u = true → (∀ w1 a1 c1, RdM w1 a1 n X (rz X Y s u) → Calls Try.prog 19 #[.slice a1 n c1] w1 (RetRE (pN n X Y q) (pE n X Y q) 0 w1)) ∧
      (∀ w1 a1 c1, RdM w1 a1 n X (rz X Y s u) → Calls Try.prog 21 #[.slice a1 n c1] w1 (RetRE (witS X Y (wits n X)).N (witS X Y (wits n X)).D 0 w1)) ∧
      (∀ w1 a1 c1, RdM w1 a1 n X (rz X Y s u) → Calls Try.prog 50 #[.slice a1 n c1] w1 (RetRE ((med (sls X Y (prs X n))).1 + s * (med (sls X Y (prs X n))).2) (med (sls X Y (prs X n))).2 0 w1)) ∧ (-4000 ≤ s ∧ s ≤ 4000) from fun hb => by
    have RV : VP n X (rz X Y s u) := raised_valid V (raB_iff.1 hb)
    obtain ⟨q2, hq2, _⟩ := bst_some RV
    obtain ⟨r1, r2, r3⟩ := told n X (rz X Y s u) RV hq2
    obtain ⟨l1, l2⟩ := lik_cost V RV hq hq2 (raised_lik n X Y s u) (raised_back n X Y s u)
    obtain ⟨l3, l4⟩ := lik_width V RV (raised_lik n X Y s u) (raised_back n X Y s u)
    rw [l1, l2] at r1
    rw [l3, l4] at r2
    rw [raised_med V RV] at r3
    exact ⟨r1, r2, r3, (raB_small V hb).1⟩)
  have HR := Lib.hid hr
  have n12 := V.few
  have m1 : 1 ≤ (med (sls X Y (prs X n))).2 := MB.1.1
  have m2 : (med (sls X Y (prs X n))).2 ≤ 200 := MB.2.1
  have m3 := MB.2.2.1
  have m4 := MB.2.2.2
  clear e1 hr h1 hn hv V hp hq TV hq1 t1 t2 t3 t4 t5 t6 k1 k2 k3 k4 hpr hne MB
  generalize (med (sls (ng X) Y (prs (ng X) n))).1 = tN at *
  generalize (med (sls (ng X) Y (prs (ng X) n))).2 = tD at *
  generalize (med (sls X Y (prs X n))).1 = mN at *
  generalize (med (sls X Y (prs X n))).2 = mD at *
  generalize raE n X Y s u = re at *
  generalize raB n X Y s u = rb at *
  generalize pN n X Y q = cN at *
  generalize pE n X Y q = cD at *
  generalize (witS X Y (wits n X)).N = uN at *
  generalize (witS X Y (wits n X)).D = uD at *
  go_enter Try.func13, Try.ntmps13
  go_wp2_with (first
    | (go_at_call 15; refine (HL.out _).mono ?_; rintro e w' ⟨rfl, rfl⟩)
    | (go_at_call 29; (with_reducible refine (CV.out _ G0.out).mono ?_); rintro e w1 ⟨rfl, g1⟩; have G1 := Lib.hid (G0.out.trans g1); clear g1)
    | (go_at_call 19; (with_reducible refine (C19.out _ G1.out).mono ?_); rintro e w2 ⟨rfl, g2⟩; have G0L := Lib.hid (G1.out.trans g2); have g2' := g2.alloc (.cells #[.int .i64 cN, .int .i64 cD] 27); have G2 := Lib.hid (G1.out.trans g2'); have BA := Lib.hid (show Box2 (w2.alloc (.cells #[.int .i64 cN, .int .i64 cD] 27)) w2.heap.size cN cD from Box2.new rfl); clear g2 g2')
    | (go_at_call 21; (with_reducible refine (C21.out _ G2.out).mono ?_); rintro e w3 ⟨rfl, g3⟩; have L3 := World.block_lt_of_cell? w3 _ (BA.out.gr g3).1; simp only at L3; have g3' := g3.alloc (.cells #[.int .i64 uN, .int .i64 uD] 27); have G3 := Lib.hid (G2.out.trans g3'); have BA := Lib.hid (BA.out.gr g3'); have BB := Lib.hid (show Box2 (w3.alloc (.cells #[.int .i64 uN, .int .i64 uD] 27)) w3.heap.size uN uD from Box2.new rfl); clear g3 g3')
    | (go_at_call 50; (with_reducible refine (C50.out _ G3.out).mono ?_); rintro e w4 ⟨rfl, g4⟩; have L4 := World.block_lt_of_cell? w4 _ (BB.out.gr g4).1; simp only at L4; have g4' := g4.alloc (.cells #[.int .i64 mN, .int .i64 mD] 27); have G4 := Lib.hid (G3.out.trans g4'); have BA := Lib.hid (BA.out.gr g4'); have BB := Lib.hid (BB.out.gr g4'); have BS := Lib.hid (show Box2 (w4.alloc (.cells #[.int .i64 mN, .int .i64 mD] 27)) w4.heap.size mN mD from Box2.new rfl); clear g4 g4')
    | (go_at_call 48; (with_reducible refine (C48.out _ G4.out).mono ?_); rintro e w5 ⟨a1, c1, rfl, h1, h2, rd1, g5⟩; have RT := Lib.hid rd1; clear rd1; obtain ⟨bs0, bs1, _, _⟩ := BS.out.gr g5; have G5 := Lib.hid (G4.out.trans g5); have BA := Lib.hid (BA.out.gr g5); have BB := Lib.hid (BB.out.gr g5); have BS := Lib.hid (BS.out.gr g5); clear g5)
    | (go_at_call 48; (with_reducible refine (T48.out _ _ _ RT.out).mono ?_); rintro e w6 ⟨a2, c2, rfl, h3, h4, rd2, g6⟩; have RA := Lib.hid rd2; clear rd2; have G6 := Lib.hid (G5.out.trans g6); have BA := Lib.hid (BA.out.gr g6); have BB := Lib.hid (BB.out.gr g6); have BS := Lib.hid (BS.out.gr g6); have RT := Lib.hid (RT.out.gr g6); clear g6)
    | (go_at_call 19; (with_reducible refine (T19.out _ _ _ RT.out).mono ?_); rintro e w7 ⟨rfl, g7⟩; have L7 := World.block_lt_of_cell? w7 _ (BS.out.gr g7).1; simp only at L7; have g7' := g7.alloc (.cells #[.int .i64 cN, .int .i64 cD] 27); have G7 := Lib.hid (G6.out.trans g7'); have BA := Lib.hid (BA.out.gr g7'); have BB := Lib.hid (BB.out.gr g7'); have BS := Lib.hid (BS.out.gr g7'); have RT := Lib.hid (RT.out.gr g7'); have RA := Lib.hid (RA.out.gr g7'); have BC := Lib.hid (show Box2 (w7.alloc (.cells #[.int .i64 cN, .int .i64 cD] 27)) w7.heap.size cN cD from Box2.new rfl); clear g7 g7')
    | (go_at_call 21; (with_reducible refine (T21.out _ _ _ RT.out).mono ?_); rintro e w8 ⟨rfl, g8⟩; have L8 := World.block_lt_of_cell? w8 _ (BC.out.gr g8).1; simp only at L8; have g8' := g8.alloc (.cells #[.int .i64 uN, .int .i64 uD] 27); have G8 := Lib.hid (G7.out.trans g8'); have BA := Lib.hid (BA.out.gr g8'); have BB := Lib.hid (BB.out.gr g8'); have BS := Lib.hid (BS.out.gr g8'); have RT := Lib.hid (RT.out.gr g8'); have RA := Lib.hid (RA.out.gr g8'); have BC := Lib.hid (BC.out.gr g8'); have BD := Lib.hid (show Box2 (w8.alloc (.cells #[.int .i64 uN, .int .i64 uD] 27)) w8.heap.size uN uD from Box2.new rfl); clear g8 g8')
    | (go_at_call 50; (with_reducible refine (T50.out _ _ _ RT.out).mono ?_); rintro e w9 ⟨rfl, g9⟩; have L9 := World.block_lt_of_cell? w9 _ (BD.out.gr g9).1; simp only at L9; have g9' := g9.alloc (.cells #[.int .i64 tN, .int .i64 tD] 27); have G9 := Lib.hid (G8.out.trans g9'); have BA := Lib.hid (BA.out.gr g9'); have BB := Lib.hid (BB.out.gr g9'); have BS := Lib.hid (BS.out.gr g9'); have RT := Lib.hid (RT.out.gr g9'); have RA := Lib.hid (RA.out.gr g9'); have BC := Lib.hid (BC.out.gr g9'); have BD := Lib.hid (BD.out.gr g9'); have BE := Lib.hid (show Box2 (w9.alloc (.cells #[.int .i64 tN, .int .i64 tD] 27)) w9.heap.size tN tD from Box2.new rfl); clear g9 g9')
    | (go_at_call 53; (with_reducible refine (C53.out _ _ _ G9.out RA.out).mono ?_); rintro e w10 ⟨rfl, g10⟩; have G10 := Lib.hid (G9.out.trans g10); have BA := Lib.hid (BA.out.gr g10); have BB := Lib.hid (BB.out.gr g10); have BS := Lib.hid (BS.out.gr g10); have RT := Lib.hid (RT.out.gr g10); have RA := Lib.hid (RA.out.gr g10); have BC := Lib.hid (BC.out.gr g10); have BD := Lib.hid (BD.out.gr g10); have BE := Lib.hid (BE.out.gr g10); obtain ⟨ba0, ba1, _, _⟩ := BA.out; obtain ⟨bb0, bb1, _, _⟩ := BB.out; obtain ⟨bc0, bc1, _, _⟩ := BC.out; obtain ⟨bd0, bd1, _, _⟩ := BD.out; clear g10))
  clear C19 C21 C50 C48 T19 T21 T50 T48 C53 CV HL
  go_loopw [19, 128] (fun sp sk wr => ∃ A : Nat, A ≤ n ∧ sk = .int .i64 A ∧ sp = .int .i64 ((prs X A).length : Nat) ∧ Hid (Gr w10 wr)) (fun _ sk _ => n - (intOf sk).toNat)
  case atStart => exact ⟨0, Nat.zero_le _, rfl, rfl, Lib.hid (Gr.refl _)⟩
  case round =>
    obtain ⟨A, hA, rfl, rfl, GA⟩ := hrel
    by_cases hlt : A < n
    · have i1 : (A : Int) < n := by omega
      have P0 := Lib.hid (show (prs X A).length = (prs X A ++ prow X A 0).length by rw [show prow X A 0 = [] from rfl, List.append_nil])
      go_wp2_with fail
      go_loopw [19, 132] (fun sp sk wr => ∃ B : Nat, B ≤ A ∧ sk = .int .i64 B ∧ sp = .int .i64 ((prs X A ++ prow X A B).length : Nat) ∧ Hid (Gr w10 wr)) (fun _ sk _ => A - (intOf sk).toNat)
      case atStart => exact ⟨0, Nat.zero_le _, rfl, by rw [P0.out], GA⟩
      case round =>
        obtain ⟨B, hB, rfl, rfl, GB⟩ := hrel
        by_cases hlt2 : B < A
        · have j1 : (B : Int) < A := by omega
          have j2 : (B : Int) < n := by omega
          obtain ⟨b, o, rfl, hc⟩ := (HR.out.gr (G10.out.trans GB.out)).at hlt
          have ca := (hc A hlt).1
          have cb := (hc B (by omega)).1
          clear hc
          have RS1 := Lib.hid (show prow X A (B + 1) = prow X A B ++ (if X B ≠ X A then [(B, A)] else []) from rfl)
          have LN : (prs X A ++ prow X A B).length < 170 := by
            have l1 := prow_len X A B
            have l2 := prs_len X A (by omega)
            rw [List.length_append]
            omega
          by_cases hx : X A = X B
          · have PS := Lib.hid (show (prs X A ++ prow X A (B + 1)).length = (prs X A ++ prow X A B).length by rw [RS1.out, if_neg (by omega), List.append_nil])
            have d1 : (X A != X B) = false := by simpa using hx
            clear RS1 hx
            generalize X A = xa at *
            generalize X B = xb at *
            go_wp2_with fail
            go_quiet (fail)
            go_wp2_with fail
            go_roundw
            case rel => exact ⟨B + 1, hlt2, by go_num, by rw [PS.out], Lib.hid (GB.out.drewN _)⟩
            case measure => simp [intOf]; omega
          · have PS := Lib.hid (show (prs X A ++ prow X A (B + 1)).length = (prs X A ++ prow X A B).length + 1 by rw [RS1.out, if_pos (fun e => hx e.symm)]; simp only [List.length_append, List.length_cons, List.length_nil]; omega)
            have d1 : (X A != X B) = true := by simpa using hx
            clear RS1 hx
            generalize X A = xa at *
            generalize X B = xb at *
            generalize (prs X A ++ prow X A B).length = kk at *
            have w1' : IntKind.i64.wrap ((kk : Int) + 1) = ((kk + 1 : Nat) : Int) := by rw [IntWalk.i64_in _ (by omega)]; omega
            go_wp2_with fail
            go_quiet (fail)
            go_wp2_with fail
            go_roundw
            case rel => exact ⟨B + 1, hlt2, by go_num, by rw [PS.out]; rfl, Lib.hid (GB.out.drewN _)⟩
            case measure => simp [intOf]; omega
        · have eB : B = A := by omega
          have PN := Lib.hid (show (prs X (A + 1)).length = (prs X A ++ prow X A B).length by rw [eB]; rfl)
          have n1 : (A : Int) ≤ (B : Int) := by omega
          clear eB hlt2
          go_wp2_with fail
          go_roundw
          case rel => exact ⟨A + 1, hlt, by go_num, by rw [PN.out], GB⟩
          case measure => simp [intOf]; omega
    · have eA : A = n := by omega
      have n1 : (n : Int) ≤ (A : Int) := by omega
      have LN := prs_len X n n12
      have EC := Lib.hid (show (prs X A).length = (prs X n).length by rw [eA])
      rw [EC.out]
      generalize (prs X n).length = kk at *
      clear EC eA hlt
      have GZ := Lib.hid (G10.out.trans GA.out)
      have ZA := Lib.hid (BA.out.gr GA.out)
      have ZB := Lib.hid (BB.out.gr GA.out)
      have ZS := Lib.hid (BS.out.gr GA.out)
      have ZC := Lib.hid (BC.out.gr GA.out)
      have ZD := Lib.hid (BD.out.gr GA.out)
      have ZE := Lib.hid (BE.out.gr GA.out)
      have LW : w9.heap.size < wr.heap.size := World.block_lt_of_cell? wr _ ZE.out.1
      clear BA BB BS BC BD BE
      have pm := mul_bd (a := s) (b := mD) (A := 4000) (B := 200)
      have NG : IntKind.i64.wrap (-mN) = -mN := IntWalk.i64_in _ (by omega)
      rcases Nat.mod_two_eq_zero_or_one kk with hp | hp
      · have e5 : (kk : Int) % 2 = 0 := by omega
        clear TM hp
        rcases RE with rfl | ⟨rfl, hrb⟩
        · have C49z := Lib.hid (show ∀ w1, Gr w w1 → Calls Try.prog 49 #[.slice a n c, .int .i64 s, .int .i64 u] w1 (fun e w' => ∃ a2 c2, e = .returned (.tuple #[.slice a2 0 c2, .int .i64 2]) ∧ Gr w1 w') from fun w1 g => (C49.out w1 g).mono fun e w' ⟨a2, c2, e1, _, _, _, e5, _⟩ => ⟨a2, c2, e1, e5⟩)
          clear R50 C49
          obtain ⟨za0, za1, _, _⟩ := ZA.out
          obtain ⟨zs0, zs1, _, _⟩ := ZS.out
          obtain ⟨ze0, ze1, _, _⟩ := ZE.out
          go_wp2_with (first
              | (go_at_call 49; (with_reducible refine (C49z.out _ GZ.out).mono ?_); rintro e w11 ⟨a3, c3, rfl, g11⟩; have G11 := Lib.hid (GZ.out.trans g11); have ZA := Lib.hid (ZA.out.gr g11); have ZB := Lib.hid (ZB.out.gr g11); have ZS := Lib.hid (ZS.out.gr g11); have ZC := Lib.hid (ZC.out.gr g11); have ZD := Lib.hid (ZD.out.gr g11); have ZE := Lib.hid (ZE.out.gr g11); clear g11)
              | (go_at_call 16; refine (Awake_any _).mono ?_; rintro e w6 ⟨rfl, hg11⟩))
          go_ret
          exact ⟨rfl, G11.out.trans hg11⟩
        · have C49z := Lib.hid (show ∀ w1, Gr w w1 → Calls Try.prog 49 #[.slice a n c, .int .i64 s, .int .i64 u] w1 (fun e w' => ∃ a2 c2, e = .returned (.tuple #[.slice a2 n c2, .int .i64 0]) ∧ (∀ p : Addr, a2 = some p → w1.heap.size ≤ p.block) ∧ RdM w' a2 n X (rz X Y s u) ∧ Gr w1 w') from fun w1 g => (C49.out w1 g).mono fun e w' ⟨a2, c2, e1, _, _, e4, e5, e6⟩ => by
            rw [show okM 0 (pairs n X (rz X Y s u)) = pairs n X (rz X Y s u) from rfl, pairs_length] at e1 e4
            exact ⟨a2, c2, e1, e6, e4.congr (fun i hi => ⟨px_pairs _ _ hi, py_pairs _ _ hi⟩), e5⟩)
          obtain ⟨r1, r2, r3, s1, s2⟩ := R50.out hrb
          have R19 := Lib.hid r1
          have R21 := Lib.hid r2
          have pm := pm s1 s2 (by omega) (by omega)
          obtain ⟨pmv, hpm⟩ : ∃ p, s * mD = p := ⟨_, rfl⟩
          rw [hpm] at pm r3
          have w1' : IntKind.i64.wrap (s * mD) = pmv := by rw [hpm]; exact IntWalk.i64_in _ (by omega)
          obtain ⟨fN, hfN⟩ : ∃ p, mN + pmv = p := ⟨_, rfl⟩
          rw [hfN] at r3
          have w2' : IntKind.i64.wrap (mN + pmv) = fN := by rw [hfN]; exact IntWalk.i64_in _ (by omega)
          have R50z := Lib.hid r3
          have LZC : w.heap.size ≤ w7.heap.size := by have := Gr.size G0L.out; omega
          have LZD : w.heap.size ≤ w8.heap.size := by omega
          clear R50 C49 hpm hfN hrb r1 r2 r3 pm
          obtain ⟨za0, za1, _, _⟩ := ZA.out
          obtain ⟨zs0, zs1, _, _⟩ := ZS.out
          obtain ⟨ze0, ze1, _, _⟩ := ZE.out
          go_wp2_with (first
              | (go_at_call 49; (with_reducible refine (C49z.out _ GZ.out).mono ?_); rintro e w11 ⟨a3, c3, rfl, fr, rd3, g11⟩; have RR := Lib.hid rd3; clear rd3; have FC : ∀ p : Addr, a3 = some p → p.block ≠ w7.heap.size := (fun p hp => by have := fr p hp; omega); have FD : ∀ p : Addr, a3 = some p → p.block ≠ w8.heap.size := (fun p hp => by have := fr p hp; omega); clear fr; have G11 := Lib.hid (GZ.out.trans g11); have ZA := Lib.hid (ZA.out.gr g11); have ZB := Lib.hid (ZB.out.gr g11); have ZS := Lib.hid (ZS.out.gr g11); have ZC := Lib.hid (ZC.out.gr g11); have ZD := Lib.hid (ZD.out.gr g11); have ZE := Lib.hid (ZE.out.gr g11); clear g11)
              | (go_at_call 19; (with_reducible refine (R19.out _ _ _ RR.out).mono ?_); rintro e w12 ⟨rfl, g12⟩; obtain ⟨p0, p1, p2, p3⟩ := ZC.out.gr g12; have G12 := Lib.hid (((G11.out.trans g12).setCell (p := ⟨w7.heap.size, 0, none⟩) LZC (.int .i64 cN)).setCell (p := ⟨w7.heap.size, 1, none⟩) LZC (.int .i64 cD)); have ZA := Lib.hid ((ZA.out.gr g12).far (show w7.heap.size ≠ w2.heap.size by omega) (.int .i64 cN) (.int .i64 cD)); have ZB := Lib.hid ((ZB.out.gr g12).far (show w7.heap.size ≠ w3.heap.size by omega) (.int .i64 cN) (.int .i64 cD)); have ZS := Lib.hid ((ZS.out.gr g12).far (show w7.heap.size ≠ w4.heap.size by omega) (.int .i64 cN) (.int .i64 cD)); have ZC := Lib.hid ((ZC.out.gr g12).put (x' := cN) (y' := cD)); have ZD := Lib.hid ((ZD.out.gr g12).far (show w7.heap.size ≠ w8.heap.size by omega) (.int .i64 cN) (.int .i64 cD)); have ZE := Lib.hid ((ZE.out.gr g12).far (show w7.heap.size ≠ w9.heap.size by omega) (.int .i64 cN) (.int .i64 cD)); have RR := Lib.hid (((RR.out.gr g12).set (j := 0) FC (.int .i64 cN)).set (j := 1) FC (.int .i64 cD)); clear g12)
              | (go_at_call 21; (with_reducible refine (R21.out _ _ _ RR.out).mono ?_); rintro e w13 ⟨rfl, g13⟩; obtain ⟨p0, p1, p2, p3⟩ := ZD.out.gr g13; have G13 := Lib.hid (((G12.out.trans g13).setCell (p := ⟨w8.heap.size, 0, none⟩) LZD (.int .i64 uN)).setCell (p := ⟨w8.heap.size, 1, none⟩) LZD (.int .i64 uD)); have ZA := Lib.hid ((ZA.out.gr g13).far (show w8.heap.size ≠ w2.heap.size by omega) (.int .i64 uN) (.int .i64 uD)); have ZB := Lib.hid ((ZB.out.gr g13).far (show w8.heap.size ≠ w3.heap.size by omega) (.int .i64 uN) (.int .i64 uD)); have ZS := Lib.hid ((ZS.out.gr g13).far (show w8.heap.size ≠ w4.heap.size by omega) (.int .i64 uN) (.int .i64 uD)); have ZC := Lib.hid ((ZC.out.gr g13).far (show w8.heap.size ≠ w7.heap.size by omega) (.int .i64 uN) (.int .i64 uD)); have ZD := Lib.hid ((ZD.out.gr g13).put (x' := uN) (y' := uD)); have ZE := Lib.hid ((ZE.out.gr g13).far (show w8.heap.size ≠ w9.heap.size by omega) (.int .i64 uN) (.int .i64 uD)); have RR := Lib.hid (((RR.out.gr g13).set (j := 0) FD (.int .i64 uN)).set (j := 1) FD (.int .i64 uD)); clear g13)
              | (go_at_call 50; (with_reducible refine (R50z.out _ _ _ RR.out).mono ?_); rintro e w14 ⟨rfl, g14⟩; have g14' := g14.alloc (.cells #[.int .i64 fN, .int .i64 mD] 27); have G14 := Lib.hid (G13.out.trans g14'); have ZA := Lib.hid (ZA.out.gr g14'); have ZB := Lib.hid (ZB.out.gr g14'); have ZS := Lib.hid (ZS.out.gr g14'); have ZC := Lib.hid (ZC.out.gr g14'); have ZD := Lib.hid (ZD.out.gr g14'); have ZE := Lib.hid (ZE.out.gr g14'); have RR := Lib.hid (RR.out.gr g14'); have ZF := Lib.hid (show Box2 (w14.alloc (.cells #[.int .i64 fN, .int .i64 mD] 27)) w14.heap.size fN mD from Box2.new rfl); obtain ⟨za0, za1, _, _⟩ := ZA.out; obtain ⟨zb0, zb1, _, _⟩ := ZB.out; obtain ⟨zs0, zs1, _, _⟩ := ZS.out; obtain ⟨zc0, zc1, _, _⟩ := ZC.out; obtain ⟨zd0, zd1, _, _⟩ := ZD.out; obtain ⟨zf0, zf1, _, _⟩ := ZF.out; clear g14 g14')
              | (go_at_call 16; refine (Awake_any _).mono ?_; rintro e w6 ⟨rfl, hg11⟩))
          go_ret
          exact ⟨rfl, G14.out.trans hg11⟩
      · have e5 : (kk : Int) % 2 = 1 := by omega
        obtain ⟨hN, hD⟩ := TM.out hp
        subst hN
        have hD := hD.symm
        subst hD
        clear TM hp
        rcases RE with rfl | ⟨rfl, hrb⟩
        · have C49z := Lib.hid (show ∀ w1, Gr w w1 → Calls Try.prog 49 #[.slice a n c, .int .i64 s, .int .i64 u] w1 (fun e w' => ∃ a2 c2, e = .returned (.tuple #[.slice a2 0 c2, .int .i64 2]) ∧ Gr w1 w') from fun w1 g => (C49.out w1 g).mono fun e w' ⟨a2, c2, e1, _, _, _, e5, _⟩ => ⟨a2, c2, e1, e5⟩)
          clear R50 C49
          obtain ⟨za0, za1, _, _⟩ := ZA.out
          obtain ⟨zs0, zs1, _, _⟩ := ZS.out
          obtain ⟨ze0, ze1, _, _⟩ := ZE.out
          go_wp2_with (first
              | (go_at_call 49; (with_reducible refine (C49z.out _ GZ.out).mono ?_); rintro e w11 ⟨a3, c3, rfl, g11⟩; have G11 := Lib.hid (GZ.out.trans g11); have ZA := Lib.hid (ZA.out.gr g11); have ZB := Lib.hid (ZB.out.gr g11); have ZS := Lib.hid (ZS.out.gr g11); have ZC := Lib.hid (ZC.out.gr g11); have ZD := Lib.hid (ZD.out.gr g11); have ZE := Lib.hid (ZE.out.gr g11); clear g11)
              | (go_at_call 16; refine (Awake_any _).mono ?_; rintro e w6 ⟨rfl, hg11⟩))
          go_ret
          exact ⟨rfl, G11.out.trans hg11⟩
        · have C49z := Lib.hid (show ∀ w1, Gr w w1 → Calls Try.prog 49 #[.slice a n c, .int .i64 s, .int .i64 u] w1 (fun e w' => ∃ a2 c2, e = .returned (.tuple #[.slice a2 n c2, .int .i64 0]) ∧ (∀ p : Addr, a2 = some p → w1.heap.size ≤ p.block) ∧ RdM w' a2 n X (rz X Y s u) ∧ Gr w1 w') from fun w1 g => (C49.out w1 g).mono fun e w' ⟨a2, c2, e1, _, _, e4, e5, e6⟩ => by
            rw [show okM 0 (pairs n X (rz X Y s u)) = pairs n X (rz X Y s u) from rfl, pairs_length] at e1 e4
            exact ⟨a2, c2, e1, e6, e4.congr (fun i hi => ⟨px_pairs _ _ hi, py_pairs _ _ hi⟩), e5⟩)
          obtain ⟨r1, r2, r3, s1, s2⟩ := R50.out hrb
          have R19 := Lib.hid r1
          have R21 := Lib.hid r2
          have pm := pm s1 s2 (by omega) (by omega)
          obtain ⟨pmv, hpm⟩ : ∃ p, s * mD = p := ⟨_, rfl⟩
          rw [hpm] at pm r3
          have w1' : IntKind.i64.wrap (s * mD) = pmv := by rw [hpm]; exact IntWalk.i64_in _ (by omega)
          obtain ⟨fN, hfN⟩ : ∃ p, mN + pmv = p := ⟨_, rfl⟩
          rw [hfN] at r3
          have w2' : IntKind.i64.wrap (mN + pmv) = fN := by rw [hfN]; exact IntWalk.i64_in _ (by omega)
          have R50z := Lib.hid r3
          have LZC : w.heap.size ≤ w7.heap.size := by have := Gr.size G0L.out; omega
          have LZD : w.heap.size ≤ w8.heap.size := by omega
          clear R50 C49 hpm hfN hrb r1 r2 r3 pm
          obtain ⟨za0, za1, _, _⟩ := ZA.out
          obtain ⟨zs0, zs1, _, _⟩ := ZS.out
          obtain ⟨ze0, ze1, _, _⟩ := ZE.out
          go_wp2_with (first
              | (go_at_call 49; (with_reducible refine (C49z.out _ GZ.out).mono ?_); rintro e w11 ⟨a3, c3, rfl, fr, rd3, g11⟩; have RR := Lib.hid rd3; clear rd3; have FC : ∀ p : Addr, a3 = some p → p.block ≠ w7.heap.size := (fun p hp => by have := fr p hp; omega); have FD : ∀ p : Addr, a3 = some p → p.block ≠ w8.heap.size := (fun p hp => by have := fr p hp; omega); clear fr; have G11 := Lib.hid (GZ.out.trans g11); have ZA := Lib.hid (ZA.out.gr g11); have ZB := Lib.hid (ZB.out.gr g11); have ZS := Lib.hid (ZS.out.gr g11); have ZC := Lib.hid (ZC.out.gr g11); have ZD := Lib.hid (ZD.out.gr g11); have ZE := Lib.hid (ZE.out.gr g11); clear g11)
              | (go_at_call 19; (with_reducible refine (R19.out _ _ _ RR.out).mono ?_); rintro e w12 ⟨rfl, g12⟩; obtain ⟨p0, p1, p2, p3⟩ := ZC.out.gr g12; have G12 := Lib.hid (((G11.out.trans g12).setCell (p := ⟨w7.heap.size, 0, none⟩) LZC (.int .i64 cN)).setCell (p := ⟨w7.heap.size, 1, none⟩) LZC (.int .i64 cD)); have ZA := Lib.hid ((ZA.out.gr g12).far (show w7.heap.size ≠ w2.heap.size by omega) (.int .i64 cN) (.int .i64 cD)); have ZB := Lib.hid ((ZB.out.gr g12).far (show w7.heap.size ≠ w3.heap.size by omega) (.int .i64 cN) (.int .i64 cD)); have ZS := Lib.hid ((ZS.out.gr g12).far (show w7.heap.size ≠ w4.heap.size by omega) (.int .i64 cN) (.int .i64 cD)); have ZC := Lib.hid ((ZC.out.gr g12).put (x' := cN) (y' := cD)); have ZD := Lib.hid ((ZD.out.gr g12).far (show w7.heap.size ≠ w8.heap.size by omega) (.int .i64 cN) (.int .i64 cD)); have ZE := Lib.hid ((ZE.out.gr g12).far (show w7.heap.size ≠ w9.heap.size by omega) (.int .i64 cN) (.int .i64 cD)); have RR := Lib.hid (((RR.out.gr g12).set (j := 0) FC (.int .i64 cN)).set (j := 1) FC (.int .i64 cD)); clear g12)
              | (go_at_call 21; (with_reducible refine (R21.out _ _ _ RR.out).mono ?_); rintro e w13 ⟨rfl, g13⟩; obtain ⟨p0, p1, p2, p3⟩ := ZD.out.gr g13; have G13 := Lib.hid (((G12.out.trans g13).setCell (p := ⟨w8.heap.size, 0, none⟩) LZD (.int .i64 uN)).setCell (p := ⟨w8.heap.size, 1, none⟩) LZD (.int .i64 uD)); have ZA := Lib.hid ((ZA.out.gr g13).far (show w8.heap.size ≠ w2.heap.size by omega) (.int .i64 uN) (.int .i64 uD)); have ZB := Lib.hid ((ZB.out.gr g13).far (show w8.heap.size ≠ w3.heap.size by omega) (.int .i64 uN) (.int .i64 uD)); have ZS := Lib.hid ((ZS.out.gr g13).far (show w8.heap.size ≠ w4.heap.size by omega) (.int .i64 uN) (.int .i64 uD)); have ZC := Lib.hid ((ZC.out.gr g13).far (show w8.heap.size ≠ w7.heap.size by omega) (.int .i64 uN) (.int .i64 uD)); have ZD := Lib.hid ((ZD.out.gr g13).put (x' := uN) (y' := uD)); have ZE := Lib.hid ((ZE.out.gr g13).far (show w8.heap.size ≠ w9.heap.size by omega) (.int .i64 uN) (.int .i64 uD)); have RR := Lib.hid (((RR.out.gr g13).set (j := 0) FD (.int .i64 uN)).set (j := 1) FD (.int .i64 uD)); clear g13)
              | (go_at_call 50; (with_reducible refine (R50z.out _ _ _ RR.out).mono ?_); rintro e w14 ⟨rfl, g14⟩; have g14' := g14.alloc (.cells #[.int .i64 fN, .int .i64 mD] 27); have G14 := Lib.hid (G13.out.trans g14'); have ZA := Lib.hid (ZA.out.gr g14'); have ZB := Lib.hid (ZB.out.gr g14'); have ZS := Lib.hid (ZS.out.gr g14'); have ZC := Lib.hid (ZC.out.gr g14'); have ZD := Lib.hid (ZD.out.gr g14'); have ZE := Lib.hid (ZE.out.gr g14'); have RR := Lib.hid (RR.out.gr g14'); have ZF := Lib.hid (show Box2 (w14.alloc (.cells #[.int .i64 fN, .int .i64 mD] 27)) w14.heap.size fN mD from Box2.new rfl); obtain ⟨za0, za1, _, _⟩ := ZA.out; obtain ⟨zb0, zb1, _, _⟩ := ZB.out; obtain ⟨zs0, zs1, _, _⟩ := ZS.out; obtain ⟨zc0, zc1, _, _⟩ := ZC.out; obtain ⟨zd0, zd1, _, _⟩ := ZD.out; obtain ⟨zf0, zf1, _, _⟩ := ZF.out; clear g14 g14')
              | (go_at_call 16; refine (Awake_any _).mono ?_; rintro e w6 ⟨rfl, hg11⟩))
          go_ret
          exact ⟨rfl, G14.out.trans hg11⟩

set_option maxRecDepth 100000 in
theorem lifted (os : Os) (started : os.Started) (H : Type) (enc : TypeId × Value → H) :
    ReturnsInHanded {} Try.checked os 13 .any (Rows.trackRaisesSpec.pre6 enc Try.prog Try.f13 Rows.trackRaisesRow.domain false) (Rows.trackRaisesSpec.post enc Try.prog Try.f13 false true false false) := by
  refine returnsInHanded_of_change (C := Try.checked) own started (by kernel_rfl) Try.func13
    (ChangeSpec.witness6 (enc := enc) (C := Try.checked) false ⟨#[], #[.slice none 0 0, .int .i64 0, .int .i64 0], []⟩ 8 (by kernel_rfl) (by kernel_rfl) (by kernel_rfl) (by kernel_rfl)) ?_
  intro W base args ds gs before hval0 hW hcnd _
  have hval : ∀ (j : Nat) t v, Try.f13.params[j]? = some t → args[j]? = some v → Value.okWide Try.prog W .any base t v := hval0
  have hW' := hW
  obtain ⟨p, q, hA0, hV, rfl, hfz, hnd⟩ := hW
  have hA : DataW.TrodAll enc Try.prog W 0 (fun _ => true) true Try.f13.params.toList args.toList ds p := hA0
  rw [Try.params13] at hA hval
  obtain ⟨v0, vs0, d0, ds0, p0, q0, hargs, rfl, rfl, h0, r0⟩ := trodAll_cons hA
  obtain ⟨v1, vs1, d1, ds1, p1, q1, rfl, rfl, rfl, h1, r1⟩ := trodAll_cons r0
  obtain ⟨v2, vs2, d2, ds2, p2, q2, rfl, rfl, rfl, h2, r2⟩ := trodAll_cons r1
  obtain ⟨rfl, rfl, rfl⟩ := trodAll_nil r2
  obtain rfl : args = #[v0, v1, v2] := by cases args; simp_all
  obtain ⟨rfl, rfl⟩ := trodVars_none hV
  obtain ⟨a0, len0, cap0, rfl⟩ := okWide_slice Try.underlying22 (hval 0 22 v0 rfl rfl)
  have k0 := h0
  have lt0 : ∀ x ∈ p0, x.block < W.heap.size := by obtain ⟨m, hm⟩ := k0; exact DataW.trod_lt m _ _ _ hm
  obtain ⟨x0, y0, wn0, _, wr0⟩ : ∃ f g : Nat → Int, len0 ≤ 9223372036854775807 ∧ (∀ i, i < len0 → (Lit.int .i64 (f i)).wf = true ∧ (Lit.int .i64 (g i)).wf = true) ∧ RdM W a0 len0 f g := by
    obtain ⟨fuel, hf⟩ := h0
    exact RdM.of_trod Try.underlying22 Try.underlying56 (by kernel_rfl) ⟨rfl, rfl⟩ ⟨rfl, rfl⟩ (by kernel_rfl) Try.underlying3 hf
  obtain ⟨a1, rfl, rfl, rfl, w1⟩ := open_int Try.underlying3 (hval 1 3 v1 rfl rfl) h1
  obtain ⟨a2, rfl, rfl, rfl, w2⟩ := open_int Try.underlying3 (hval 2 3 v2 rfl rfl) h2
  clear hA0 hval0
  refine (walk a0 len0 cap0 x0 y0 a1 a2 W wn0 wr0).mono fun e W' ⟨he, bel⟩ => ?_
  subst he
  exact ⟨_, rfl, _, _, _, [], _, [], hW', trodAll_mk1 (shut_bool Try.underlying4 _), (trodAll_cons_mk (Below.trod laidOut (by kernel_rfl) (of_decide_eq_true (by kernel_rfl)) k0 bel lt0) (trodAll_cons_mk (shut_int Try.underlying3 w1) (trodAll_cons_mk (shut_int Try.underlying3 w2) trodAll_mk0))), rfl, bel.frame _, fun h => by cases h⟩

theorem over : Rows.trackRaisesRow.holds Try.pinned (OpenSpec.ofChange Rows.trackRaisesSpec) :=
  OpenClaim.holds_of_wide 13 Try.f13 rfl rfl rfl rfl rfl rfl rfl ⟨rfl, rfl, rfl, rfl, rfl⟩ rfl rfl rfl rfl rfl (by kernel_rfl) Try.func13 (by kernel_rfl)
    (of_decide_eq_true (by kernel_rfl)) (by unfold Func.isWrapper; first | (rw [if_pos (by decide +kernel)]; kernel_rfl) | (rw [if_neg (by decide +kernel)]; exact ⟨rfl, rfl⟩))
    (fun os started H enc _ => lifted os started H enc)

/-- The statement. -/
theorem proved : Rows.TrackRaisesSaid := over
end Go.Proofs.Ytbhndfnfohoidaa.trackRaises
