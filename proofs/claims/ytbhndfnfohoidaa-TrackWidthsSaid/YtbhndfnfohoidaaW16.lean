/- Contracts of chapter 5: the cost and the width of a line, of the program and of the reference. -/
import Derived.Test.YtbhndfnfohoidaaW15
namespace Go.Proofs.Ytbhndfnfohoidaa
open Go.RowKit Go.Firn

/-- A ratio that is told where nothing is wrong. -/
def okN (E N : Int) : Int := if E = 0 then N else 0
theorem asE_ok {n : Nat} {X Y : Nat → Int} {A B D : Int} (h : asE n X Y A B D = 0) : VP n X Y ∧ InL A B D := by
  unfold asE at h
  cases h1 : vP n X Y
  · rw [h1] at h; cases h
  · cases h2 : inLB A B D
    · rw [h1, h2] at h; cases h
    · exact ⟨vP_iff.1 h1, inLB_iff.1 h2⟩

set_option maxHeartbeats 1000000 in
theorem Cost_any (a : Option Addr) (n c : Nat) (X Y : Nat → Int) (A B D : Int) (w : World) (hn : n ≤ 1000) (hr : RdM w a n X Y) :
    Calls Try.prog 33 #[.slice a n c, .agg #[.int .i64 A, .int .i64 B, .int .i64 D]] w (RetRE (okN (asE n X Y A B D) (rN (sumA X Y A B D n) D)) (okN (asE n X Y A B D) (rD (sumA X Y A B D n) D)) (asE n X Y A B D) w) := by
  obtain ⟨W0, hW0⟩ : ∃ W0, ((w.alloc (.cells #[.int .i64 A, .int .i64 B, .int .i64 D] 37)).alloc (.cells #[.int .i64 0, .int .i64 0] 27)) = W0 := ⟨_, rfl⟩
  have G0 := Lib.hid (show Gr w W0 by rw [← hW0]; exact ((Gr.refl w).alloc _).alloc _)
  have B3 := Lib.hid (show Box3 W0 w.heap.size A B D by rw [← hW0]; exact (Box3.new rfl).gr ((Gr.refl _).alloc _))
  have B4 := Lib.hid (show Box2 W0 (w.heap.size + 1) 0 0 by rw [← hW0]; exact Box2.new (by simp))
  obtain ⟨l0, l1, l2, f0, f1, f2⟩ := B3.out
  have HA := Lib.hid (lined_any a n c X Y A B D W0 hn (hr.gr G0.out))
  by_cases he : asE n X Y A B D = 0
  case neg =>
    have e1 : okN (asE n X Y A B D) (rN (sumA X Y A B D n) D) = 0 := if_neg he
    have e2 : okN (asE n X Y A B D) (rD (sumA X Y A B D n) D) = 0 := if_neg he
    rw [e1, e2]
    clear e1 e2 hr hn
    generalize asE n X Y A B D = E at *
    have d1 : (E != 0) = true := by simpa using he
    have d2 : (E == 0) = false := by simpa using he
    go_enter Try.func33, Try.ntmps33
    go_wp2_with (go_at_call 65; refine (HA.out).mono ?_; rintro e w1 ⟨rfl, g1⟩; obtain ⟨p0, p1, p2, p3⟩ := B4.out.gr g1)
    obtain ⟨z0, z1, _, _⟩ := (show Box2 w1 (w.heap.size + 1) 0 0 from ⟨p0, p1, p2, p3⟩).put (x' := 0) (y' := 0)
    exact bodyPost_ret (v := .tuple #[.agg #[.int .i64 0, .int .i64 0], .int .i64 E]) (by simp [results, Try.results33, go_sem, z0, z1]) rfl ⟨rfl, ((G0.out.trans g1).setCell (by simp) _).setCell (by simp) _⟩
  case pos =>
    obtain ⟨V, IL⟩ := asE_ok he
    have n12 := V.few
    rw [he] at HA
    rw [he]
    have e1 : okN 0 (rN (sumA X Y A B D n) D) = rN (sumA X Y A B D n) D := if_pos rfl
    have e2 : okN 0 (rD (sumA X Y A B D n) D) = rD (sumA X Y A B D n) D := if_pos rfl
    rw [e1, e2]
    clear e1 e2 he
    have HR := Lib.hid hr
    have OK := Lib.hid V.ok
    have HL := Lib.hid IL
    have D1 := IL.2.2.1
    have D2 := IL.2.2.2
    have BS := sumA_bd V.ok IL (Nat.le_refl n)
    clear hr V IL
    have HC := Lib.hid (fun w1 (g : Gr W0 w1) => cost_any a n c X Y A B D w1 n12 ((HR.out.gr G0.out).gr g) OK.out HL.out)
    clear BS
    go_enter Try.func33, Try.ntmps33
    go_wp2_with (first
      | (go_at_call 65; refine (HA.out).mono ?_; rintro e w1 ⟨rfl, g1⟩; have G1 := Lib.hid g1; obtain ⟨l0, l1, l2, f0, f1, f2⟩ := B3.out.gr g1; clear g1)
      | (go_at_call 59; refine (HC.out _ G1.out).mono ?_; rintro e w2 ⟨rfl, g2⟩; have Gw2 := Lib.hid ((G0.out.trans G1.out).trans g2); obtain ⟨q0, q1, q2, q3⟩ := B4.out.gr (G1.out.trans g2); clear g2))
    obtain ⟨z0, z1, _, _⟩ := (show Box2 w2 (w.heap.size + 1) 0 0 from ⟨q0, q1, q2, q3⟩).put (x' := rN (sumA X Y A B D n) D) (y' := rD (sumA X Y A B D n) D)
    exact bodyPost_ret (v := .tuple #[.agg #[.int .i64 (rN (sumA X Y A B D n) D), .int .i64 (rD (sumA X Y A B D n) D)], .int .i64 0]) (by simp [results, Try.results33, go_sem, z0, z1]) rfl ⟨rfl, (Gw2.out.setCell (by simp) _).setCell (by simp) _⟩

set_option maxHeartbeats 1000000 in
theorem refCost_any (a : Option Addr) (n c : Nat) (X Y : Nat → Int) (A B D : Int) (w : World) (hn : n ≤ 1000) (hr : RdM w a n X Y) :
    Calls Try.prog 34 #[.slice a n c, .agg #[.int .i64 A, .int .i64 B, .int .i64 D]] w (RetRE (okN (asE n X Y A B D) (rN (sumA X Y A B D n) D)) (okN (asE n X Y A B D) (rD (sumA X Y A B D n) D)) (asE n X Y A B D) w) := by
  obtain ⟨W0, hW0⟩ : ∃ W0, ((w.alloc (.cells #[.int .i64 A, .int .i64 B, .int .i64 D] 37)).alloc (.cells #[.int .i64 0, .int .i64 0] 27)) = W0 := ⟨_, rfl⟩
  have G0 := Lib.hid (show Gr w W0 by rw [← hW0]; exact ((Gr.refl w).alloc _).alloc _)
  have B3 := Lib.hid (show Box3 W0 w.heap.size A B D by rw [← hW0]; exact (Box3.new rfl).gr ((Gr.refl _).alloc _))
  have B4 := Lib.hid (show Box2 W0 (w.heap.size + 1) 0 0 by rw [← hW0]; exact Box2.new (by simp))
  obtain ⟨l0, l1, l2, f0, f1, f2⟩ := B3.out
  have HA := Lib.hid (asked_any a n c X Y A B D W0 hn (hr.gr G0.out))
  by_cases he : asE n X Y A B D = 0
  case neg =>
    have e1 : okN (asE n X Y A B D) (rN (sumA X Y A B D n) D) = 0 := if_neg he
    have e2 : okN (asE n X Y A B D) (rD (sumA X Y A B D n) D) = 0 := if_neg he
    rw [e1, e2]
    clear e1 e2 hr hn
    generalize asE n X Y A B D = E at *
    have d1 : (E != 0) = true := by simpa using he
    have d2 : (E == 0) = false := by simpa using he
    go_enter Try.func34, Try.ntmps34
    go_wp2_with (go_at_call 68; refine (HA.out).mono ?_; rintro e w1 ⟨rfl, g1⟩; obtain ⟨p0, p1, p2, p3⟩ := B4.out.gr g1)
    obtain ⟨z0, z1, _, _⟩ := (show Box2 w1 (w.heap.size + 1) 0 0 from ⟨p0, p1, p2, p3⟩).put (x' := 0) (y' := 0)
    exact bodyPost_ret (v := .tuple #[.agg #[.int .i64 0, .int .i64 0], .int .i64 E]) (by simp [results, Try.results34, go_sem, z0, z1]) rfl ⟨rfl, ((G0.out.trans g1).setCell (by simp) _).setCell (by simp) _⟩
  case pos =>
    obtain ⟨V, IL⟩ := asE_ok he
    have n12 := V.few
    rw [he] at HA
    rw [he]
    have e1 : okN 0 (rN (sumA X Y A B D n) D) = rN (sumA X Y A B D n) D := if_pos rfl
    have e2 : okN 0 (rD (sumA X Y A B D n) D) = rD (sumA X Y A B D n) D := if_pos rfl
    rw [e1, e2]
    clear e1 e2 he
    have HR := Lib.hid hr
    have OK := Lib.hid V.ok
    have HL := Lib.hid IL
    have D1 := IL.2.2.1
    have D2 := IL.2.2.2
    have BS := sumA_bd V.ok IL (Nat.le_refl n)
    clear hr V IL
    have HC := Lib.hid (fun w1 (g : Gr W0 w1) => sums_any a n c X Y A B D w1 n12 ((HR.out.gr G0.out).gr g) OK.out HL.out)
    have CR := Lib.hid (fun w' => Ratio_any (sumA X Y A B D n) D w' (by unfold Sz; omega) (by unfold Sz; omega) (by omega))
    clear BS
    go_enter Try.func34, Try.ntmps34
    go_wp2_with (first
      | (go_at_call 68; refine (HA.out).mono ?_; rintro e w1 ⟨rfl, g1⟩; have G1 := Lib.hid g1; obtain ⟨l0, l1, l2, f0, f1, f2⟩ := B3.out.gr g1; clear g1)
      | (go_at_call 62; refine (HC.out _ G1.out).mono ?_; rintro e w2 ⟨rfl, g2⟩; have G2 := Lib.hid (G1.out.trans g2); obtain ⟨m0, m1, m2, _, _, _⟩ := B3.out.gr G2.out; clear g2)
      | (go_at_call 44; refine (CR.out _).mono ?_; rintro e w3 ⟨rfl, g3⟩; have Gw3 := Lib.hid ((G0.out.trans G2.out).trans g3); obtain ⟨q0, q1, q2, q3⟩ := B4.out.gr (G2.out.trans g3); clear g3))
    obtain ⟨z0, z1, _, _⟩ := (show Box2 w3 (w.heap.size + 1) 0 0 from ⟨q0, q1, q2, q3⟩).put (x' := rN (sumA X Y A B D n) D) (y' := rD (sumA X Y A B D n) D)
    exact bodyPost_ret (v := .tuple #[.agg #[.int .i64 (rN (sumA X Y A B D n) D), .int .i64 (rD (sumA X Y A B D n) D)], .int .i64 0]) (by simp [results, Try.results34, go_sem, z0, z1]) rfl ⟨rfl, (Gw3.out.setCell (by simp) _).setCell (by simp) _⟩

set_option maxHeartbeats 1000000 in
theorem Width_any (a : Option Addr) (n c : Nat) (X Y : Nat → Int) (A B D : Int) (w : World) (hn : n ≤ 1000) (hr : RdM w a n X Y) :
    Calls Try.prog 35 #[.slice a n c, .agg #[.int .i64 A, .int .i64 B, .int .i64 D]] w (RetRE (okN (asE n X Y A B D) (rN (maxA X Y A B D n) D)) (okN (asE n X Y A B D) (rD (maxA X Y A B D n) D)) (asE n X Y A B D) w) := by
  obtain ⟨W0, hW0⟩ : ∃ W0, ((w.alloc (.cells #[.int .i64 A, .int .i64 B, .int .i64 D] 37)).alloc (.cells #[.int .i64 0, .int .i64 0] 27)) = W0 := ⟨_, rfl⟩
  have G0 := Lib.hid (show Gr w W0 by rw [← hW0]; exact ((Gr.refl w).alloc _).alloc _)
  have B3 := Lib.hid (show Box3 W0 w.heap.size A B D by rw [← hW0]; exact (Box3.new rfl).gr ((Gr.refl _).alloc _))
  have B4 := Lib.hid (show Box2 W0 (w.heap.size + 1) 0 0 by rw [← hW0]; exact Box2.new (by simp))
  obtain ⟨l0, l1, l2, f0, f1, f2⟩ := B3.out
  have HA := Lib.hid (lined_any a n c X Y A B D W0 hn (hr.gr G0.out))
  by_cases he : asE n X Y A B D = 0
  case neg =>
    have e1 : okN (asE n X Y A B D) (rN (maxA X Y A B D n) D) = 0 := if_neg he
    have e2 : okN (asE n X Y A B D) (rD (maxA X Y A B D n) D) = 0 := if_neg he
    rw [e1, e2]
    clear e1 e2 hr hn
    generalize asE n X Y A B D = E at *
    have d1 : (E != 0) = true := by simpa using he
    have d2 : (E == 0) = false := by simpa using he
    go_enter Try.func35, Try.ntmps35
    go_wp2_with (go_at_call 65; refine (HA.out).mono ?_; rintro e w1 ⟨rfl, g1⟩; obtain ⟨p0, p1, p2, p3⟩ := B4.out.gr g1)
    obtain ⟨z0, z1, _, _⟩ := (show Box2 w1 (w.heap.size + 1) 0 0 from ⟨p0, p1, p2, p3⟩).put (x' := 0) (y' := 0)
    exact bodyPost_ret (v := .tuple #[.agg #[.int .i64 0, .int .i64 0], .int .i64 E]) (by simp [results, Try.results35, go_sem, z0, z1]) rfl ⟨rfl, ((G0.out.trans g1).setCell (by simp) _).setCell (by simp) _⟩
  case pos =>
    obtain ⟨V, IL⟩ := asE_ok he
    have n12 := V.few
    rw [he] at HA
    rw [he]
    have e1 : okN 0 (rN (maxA X Y A B D n) D) = rN (maxA X Y A B D n) D := if_pos rfl
    have e2 : okN 0 (rD (maxA X Y A B D n) D) = rD (maxA X Y A B D n) D := if_pos rfl
    rw [e1, e2]
    clear e1 e2 he
    have HR := Lib.hid hr
    have OK := Lib.hid V.ok
    have HL := Lib.hid IL
    have D1 := IL.2.2.1
    have D2 := IL.2.2.2
    have BS := maxA_bd V.ok IL (Nat.le_refl n)
    clear hr V IL
    have CR := Lib.hid (fun w' => ratio_any (maxA X Y A B D n) D w' (by unfold Sz; omega) (by unfold Sz; omega) (by omega))
    clear BS
    go_enter Try.func35, Try.ntmps35
    go_wp2_with (go_at_call 65; refine (HA.out).mono ?_; rintro e w1 ⟨rfl, g1⟩; have G1 := Lib.hid g1; clear g1)
    clear l0 l1 l2 f0 f1 f2
    go_loopw [7, 19] (fun sm sk wr => ∃ k : Nat, k ≤ n ∧ sk = .int .i64 k ∧ sm = .int .i64 (maxA X Y A B D k) ∧ Gr W0 wr) (fun _ sk _ => n - (intOf sk).toNat)
    case atStart => exact ⟨0, Nat.zero_le _, rfl, rfl, G1.out⟩
    case round =>
      obtain ⟨k, hk, rfl, rfl, hg⟩ := hrel
      obtain ⟨l0, l1, l2, f0, f1, f2⟩ := B3.out.gr hg
      have lw : w.heap.size < wr.heap.size := World.block_lt_of_cell? wr _ l0
      by_cases hlt : k < n
      · obtain ⟨b, o, ea, hc⟩ := (HR.out.gr (G0.out.trans hg)).at hlt
        subst ea
        obtain ⟨c1, c2⟩ := hc k hlt
        have i1 : (k : Int) < n := by omega
        have RB := (rs_bd (OK.out k hlt) HL.out).2.2
        have C := Lib.hid (fun w' => rest_any (X k) (Y k) A B D w' (OK.out k hlt) HL.out)
        have CA := Lib.hid (fun w' => abs_any (rs (X k) (Y k) A B D) w' (by unfold Sz; omega))
        have M := Lib.hid (show maxA X Y A B D (k + 1) = max (maxA X Y A B D k) (ab (rs (X k) (Y k) A B D)) from rfl)
        generalize maxA X Y A B D k = m at *
        generalize rs (X k) (Y k) A B D = r at *
        generalize ab r = t at *
        clear hc RB
        go_wp2_with (first
          | (go_at_call 67; (with_reducible refine (C.out _).mono ?_); rintro e w1 ⟨rfl, g1⟩)
          | (go_at_call 75; (with_reducible refine (CA.out _).mono ?_); rintro e w2 ⟨rfl, rfl⟩))
        go_roundw
        case rel => exact ⟨k + 1, by omega, by go_num, by rw [M.out]; congr 1; split <;> omega, (hg.alloc _).trans g1⟩
        case measure => simp [intOf]; omega
      · obtain rfl : k = n := by omega
        obtain ⟨p0, p1, p2, p3⟩ := B4.out.gr hg
        go_wp2_with (go_at_call 66; (with_reducible refine (CR.out _).mono ?_); rintro e w2 ⟨rfl, g2⟩; have Gw2 := Lib.hid ((G0.out.trans hg).trans g2); obtain ⟨q0, q1, q2, q3⟩ := B4.out.gr (hg.trans g2))
        obtain ⟨z0, z1, _, _⟩ := (show Box2 w2 (w.heap.size + 1) 0 0 from ⟨q0, q1, q2, q3⟩).put (x' := rN (maxA X Y A B D k) D) (y' := rD (maxA X Y A B D k) D)
        exact bodyPost_ret (v := .tuple #[.agg #[.int .i64 (rN (maxA X Y A B D k) D), .int .i64 (rD (maxA X Y A B D k) D)], .int .i64 0]) (by simp [results, Try.results35, go_sem, z0, z1]) rfl ⟨rfl, (Gw2.out.setCell (by simp) _).setCell (by simp) _⟩

set_option maxHeartbeats 1000000 in
theorem refWidth_any (a : Option Addr) (n c : Nat) (X Y : Nat → Int) (A B D : Int) (w : World) (hn : n ≤ 1000) (hr : RdM w a n X Y) :
    Calls Try.prog 36 #[.slice a n c, .agg #[.int .i64 A, .int .i64 B, .int .i64 D]] w (RetRE (okN (asE n X Y A B D) (rN (maxA X Y A B D n) D)) (okN (asE n X Y A B D) (rD (maxA X Y A B D n) D)) (asE n X Y A B D) w) := by
  obtain ⟨W0, hW0⟩ : ∃ W0, ((w.alloc (.cells #[.int .i64 A, .int .i64 B, .int .i64 D] 37)).alloc (.cells #[.int .i64 0, .int .i64 0] 27)) = W0 := ⟨_, rfl⟩
  have G0 := Lib.hid (show Gr w W0 by rw [← hW0]; exact ((Gr.refl w).alloc _).alloc _)
  have B3 := Lib.hid (show Box3 W0 w.heap.size A B D by rw [← hW0]; exact (Box3.new rfl).gr ((Gr.refl _).alloc _))
  have B4 := Lib.hid (show Box2 W0 (w.heap.size + 1) 0 0 by rw [← hW0]; exact Box2.new (by simp))
  obtain ⟨l0, l1, l2, f0, f1, f2⟩ := B3.out
  have HA := Lib.hid (asked_any a n c X Y A B D W0 hn (hr.gr G0.out))
  by_cases he : asE n X Y A B D = 0
  case neg =>
    have e1 : okN (asE n X Y A B D) (rN (maxA X Y A B D n) D) = 0 := if_neg he
    have e2 : okN (asE n X Y A B D) (rD (maxA X Y A B D n) D) = 0 := if_neg he
    rw [e1, e2]
    clear e1 e2 hr hn
    generalize asE n X Y A B D = E at *
    have d1 : (E != 0) = true := by simpa using he
    have d2 : (E == 0) = false := by simpa using he
    go_enter Try.func36, Try.ntmps36
    go_wp2_with (go_at_call 68; refine (HA.out).mono ?_; rintro e w1 ⟨rfl, g1⟩; obtain ⟨p0, p1, p2, p3⟩ := B4.out.gr g1)
    obtain ⟨z0, z1, _, _⟩ := (show Box2 w1 (w.heap.size + 1) 0 0 from ⟨p0, p1, p2, p3⟩).put (x' := 0) (y' := 0)
    exact bodyPost_ret (v := .tuple #[.agg #[.int .i64 0, .int .i64 0], .int .i64 E]) (by simp [results, Try.results36, go_sem, z0, z1]) rfl ⟨rfl, ((G0.out.trans g1).setCell (by simp) _).setCell (by simp) _⟩
  case pos =>
    obtain ⟨V, IL⟩ := asE_ok he
    have n12 := V.few
    rw [he] at HA
    rw [he]
    have e1 : okN 0 (rN (maxA X Y A B D n) D) = rN (maxA X Y A B D n) D := if_pos rfl
    have e2 : okN 0 (rD (maxA X Y A B D n) D) = rD (maxA X Y A B D n) D := if_pos rfl
    rw [e1, e2]
    clear e1 e2 he
    have HR := Lib.hid hr
    have OK := Lib.hid V.ok
    have HL := Lib.hid IL
    have D1 := IL.2.2.1
    have D2 := IL.2.2.2
    have BS := maxA_bd V.ok IL (Nat.le_refl n)
    clear hr V IL
    have HC := Lib.hid (fun w1 (g : Gr W0 w1) => sums_any a n c X Y A B D w1 n12 ((HR.out.gr G0.out).gr g) OK.out HL.out)
    have CR := Lib.hid (fun w' => Ratio_any (maxA X Y A B D n) D w' (by unfold Sz; omega) (by unfold Sz; omega) (by omega))
    clear BS
    go_enter Try.func36, Try.ntmps36
    go_wp2_with (first
      | (go_at_call 68; refine (HA.out).mono ?_; rintro e w1 ⟨rfl, g1⟩; have G1 := Lib.hid g1; obtain ⟨l0, l1, l2, f0, f1, f2⟩ := B3.out.gr g1; clear g1)
      | (go_at_call 62; refine (HC.out _ G1.out).mono ?_; rintro e w2 ⟨rfl, g2⟩; have G2 := Lib.hid (G1.out.trans g2); obtain ⟨m0, m1, m2, _, _, _⟩ := B3.out.gr G2.out; clear g2)
      | (go_at_call 44; refine (CR.out _).mono ?_; rintro e w3 ⟨rfl, g3⟩; have Gw3 := Lib.hid ((G0.out.trans G2.out).trans g3); obtain ⟨q0, q1, q2, q3⟩ := B4.out.gr (G2.out.trans g3); clear g3))
    obtain ⟨z0, z1, _, _⟩ := (show Box2 w3 (w.heap.size + 1) 0 0 from ⟨q0, q1, q2, q3⟩).put (x' := rN (maxA X Y A B D n) D) (y' := rD (maxA X Y A B D n) D)
    exact bodyPost_ret (v := .tuple #[.agg #[.int .i64 (rN (maxA X Y A B D n) D), .int .i64 (rD (maxA X Y A B D n) D)], .int .i64 0]) (by simp [results, Try.results36, go_sem, z0, z1]) rfl ⟨rfl, (Gw3.out.setCell (by simp) _).setCell (by simp) _⟩

end Go.Proofs.Ytbhndfnfohoidaa
