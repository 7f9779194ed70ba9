/- Contracts of chapter 5: valid lines; what is asked of points and a line. Contracts of chapter 5: the cost and the width of a line, of the program and of the reference. -/
import Derived.Test.YtbhndfnfohoidaaW13
namespace Go.Proofs.Ytbhndfnfohoidaa
open Go.RowKit Go.Firn

/-- Whether a line is in range. -/
def inLB (A B D : Int) : Bool := btw (-1000000) A 1000000 && btw (-100000000) B 100000000 && btw 1 D 10000
theorem inLB_iff {A B D : Int} : inLB A B D = true ↔ InL A B D := by
  unfold inLB InL
  rw [Bool.and_eq_true, Bool.and_eq_true, btw_true, btw_true, btw_true]
  exact ⟨fun ⟨⟨a, b⟩, c⟩ => ⟨a, b, c⟩, fun ⟨a, b, c⟩ => ⟨⟨a, b⟩, c⟩⟩
theorem inLB_no {A B D : Int} (h : ¬ InL A B D) : inLB A B D = false := by
  rw [Bool.eq_false_iff]; exact fun e => h (inLB_iff.1 e)

theorem ValidLine_any (A B D : Int) (w : World) : Calls Try.prog 30 #[.agg #[.int .i64 A, .int .i64 B, .int .i64 D]] w (RetB (inLB A B D) w) := by
  have C1 := Lib.hid (fun w' => between_any (-1000000) A 1000000 w')
  have C2 := Lib.hid (fun w' => between_any (-100000000) B 100000000 w')
  have C3 := Lib.hid (fun w' => between_any 1 D 10000 w')
  have E := Lib.hid (show inLB A B D = (btw (-1000000) A 1000000 && btw (-100000000) B 100000000 && btw 1 D 10000) from rfl)
  generalize btw (-1000000) A 1000000 = b1 at *
  generalize btw (-100000000) B 100000000 = b2 at *
  generalize btw 1 D 10000 = b3 at *
  rw [E.out]
  clear E
  cases b1
  case false =>
    go_enter Try.func30, Try.ntmps30
    go_wp2_with (go_at_call 70; first
      | ((with_reducible refine (C1.out _).mono ?_); rintro e w1 ⟨rfl, rfl⟩)
      | ((with_reducible refine (C2.out _).mono ?_); rintro e w1 ⟨rfl, rfl⟩)
      | ((with_reducible refine (C3.out _).mono ?_); rintro e w1 ⟨rfl, rfl⟩))
    go_ret
    exact ⟨rfl, (Gr.refl w).alloc _⟩
  case true =>
    cases b2
    case false =>
      go_enter Try.func30, Try.ntmps30
      go_wp2_with (go_at_call 70; first
        | ((with_reducible refine (C1.out _).mono ?_); rintro e w1 ⟨rfl, rfl⟩)
        | ((with_reducible refine (C2.out _).mono ?_); rintro e w1 ⟨rfl, rfl⟩)
        | ((with_reducible refine (C3.out _).mono ?_); rintro e w1 ⟨rfl, rfl⟩))
      go_ret
      exact ⟨rfl, (Gr.refl w).alloc _⟩
    case true =>
      go_enter Try.func30, Try.ntmps30
      go_wp2_with (go_at_call 70; first
        | ((with_reducible refine (C1.out _).mono ?_); rintro e w1 ⟨rfl, rfl⟩)
        | ((with_reducible refine (C2.out _).mono ?_); rintro e w1 ⟨rfl, rfl⟩)
        | ((with_reducible refine (C3.out _).mono ?_); rintro e w1 ⟨rfl, rfl⟩))
      go_ret
      exact ⟨by simp, (Gr.refl w).alloc _⟩

set_option maxHeartbeats 1000000 in
theorem refValidLine_any (A B D : Int) (w : World) : Calls Try.prog 31 #[.agg #[.int .i64 A, .int .i64 B, .int .i64 D]] w (RetB (inLB A B D) w) := by
  by_cases h1 : -1000000 ≤ A
  case neg =>
    rw [show inLB A B D = false from inLB_no (fun e => by unfold InL at e; omega)]
    have d1 : decide (-1000000 ≤ A) = false := by simpa using h1
    go_enter Try.func31, Try.ntmps31
    go_wp2_with fail
    go_ret
    exact ⟨rfl, (Gr.refl w).alloc _⟩
  case pos =>
    by_cases h2 : A ≤ 1000000
    case neg =>
      rw [show inLB A B D = false from inLB_no (fun e => by unfold InL at e; omega)]
      have d1 : decide (-1000000 ≤ A) = true := by simpa using h1
      have d2 : decide (A ≤ 1000000) = false := by simpa using h2
      go_enter Try.func31, Try.ntmps31
      go_wp2_with fail
      go_ret
      exact ⟨rfl, (Gr.refl w).alloc _⟩
    case pos =>
      by_cases h3 : -100000000 ≤ B
      case neg =>
        rw [show inLB A B D = false from inLB_no (fun e => by unfold InL at e; omega)]
        have d1 : decide (-1000000 ≤ A) = true := by simpa using h1
        have d2 : decide (A ≤ 1000000) = true := by simpa using h2
        have d3 : decide (-100000000 ≤ B) = false := by simpa using h3
        go_enter Try.func31, Try.ntmps31
        go_wp2_with fail
        go_ret
        exact ⟨rfl, (Gr.refl w).alloc _⟩
      case pos =>
        by_cases h4 : B ≤ 100000000
        case neg =>
          rw [show inLB A B D = false from inLB_no (fun e => by unfold InL at e; omega)]
          have d1 : decide (-1000000 ≤ A) = true := by simpa using h1
          have d2 : decide (A ≤ 1000000) = true := by simpa using h2
          have d3 : decide (-100000000 ≤ B) = true := by simpa using h3
          have d4 : decide (B ≤ 100000000) = false := by simpa using h4
          go_enter Try.func31, Try.ntmps31
          go_wp2_with fail
          go_ret
          exact ⟨rfl, (Gr.refl w).alloc _⟩
        case pos =>
          by_cases h5 : 1 ≤ D
          case neg =>
            rw [show inLB A B D = false from inLB_no (fun e => by unfold InL at e; omega)]
            have d1 : decide (-1000000 ≤ A) = true := by simpa using h1
            have d2 : decide (A ≤ 1000000) = true := by simpa using h2
            have d3 : decide (-100000000 ≤ B) = true := by simpa using h3
            have d4 : decide (B ≤ 100000000) = true := by simpa using h4
            have d5 : decide (1 ≤ D) = false := by simpa using h5
            go_enter Try.func31, Try.ntmps31
            go_wp2_with fail
            go_ret
            exact ⟨rfl, (Gr.refl w).alloc _⟩
          case pos =>
            by_cases h6 : D ≤ 10000
            case neg =>
              rw [show inLB A B D = false from inLB_no (fun e => by unfold InL at e; omega)]
              have d1 : decide (-1000000 ≤ A) = true := by simpa using h1
              have d2 : decide (A ≤ 1000000) = true := by simpa using h2
              have d3 : decide (-100000000 ≤ B) = true := by simpa using h3
              have d4 : decide (B ≤ 100000000) = true := by simpa using h4
              have d5 : decide (1 ≤ D) = true := by simpa using h5
              have d6 : decide (D ≤ 10000) = false := by simpa using h6
              go_enter Try.func31, Try.ntmps31
              go_wp2_with fail
              go_ret
              exact ⟨rfl, (Gr.refl w).alloc _⟩
            case pos =>
              have d1 : decide (-1000000 ≤ A) = true := by simpa using h1
              have d2 : decide (A ≤ 1000000) = true := by simpa using h2
              have d3 : decide (-100000000 ≤ B) = true := by simpa using h3
              have d4 : decide (B ≤ 100000000) = true := by simpa using h4
              have d5 : decide (1 ≤ D) = true := by simpa using h5
              have d6 : decide (D ≤ 10000) = true := by simpa using h6
              rw [show inLB A B D = true from inLB_iff.2 (by unfold InL; omega)]
              go_enter Try.func31, Try.ntmps31
              go_wp2_with fail
              go_ret
              exact ⟨rfl, (Gr.refl w).alloc _⟩

/-- What is wrong with points and a line. -/
def asE (n : Nat) (X Y : Nat → Int) (A B D : Int) : Int := if vP n X Y then (if inLB A B D then 0 else 51) else 50

theorem lined_any (a : Option Addr) (n c : Nat) (X Y : Nat → Int) (A B D : Int) (w : World) (hn : n ≤ 1000) (hr : RdM w a n X Y) :
    Calls Try.prog 65 #[.slice a n c, .agg #[.int .i64 A, .int .i64 B, .int .i64 D]] w (RetI (asE n X Y A B D) w) := by
  have G0 := Lib.hid ((Gr.refl w).alloc (.cells #[.int .i64 A, .int .i64 B, .int .i64 D] 37))
  have B0 := Lib.hid (show Box3 (w.alloc (.cells #[.int .i64 A, .int .i64 B, .int .i64 D] 37)) w.heap.size A B D from Box3.new rfl)
  have HA := Lib.hid (Valid_any a n c X Y (w.alloc (.cells #[.int .i64 A, .int .i64 B, .int .i64 D] 37)) hn (hr.gr G0.out))
  have HL := Lib.hid (fun w' => ValidLine_any A B D w')
  have E := Lib.hid (show asE n X Y A B D = if vP n X Y then (if inLB A B D then 0 else 51) else 50 from rfl)
  rw [E.out]
  clear hr hn E
  generalize vP n X Y = b1 at *
  generalize inLB A B D = b2 at *
  cases b1
  case false =>
    go_enter Try.func65, Try.ntmps65
    go_wp2_with (go_at_call 28; refine (HA.out).mono ?_; rintro e w1 ⟨rfl, g1⟩)
    go_ret
    exact ⟨rfl, G0.out.trans g1⟩
  case true =>
    cases b2
    case false =>
      go_enter Try.func65, Try.ntmps65
      go_wp2_with (first
        | (go_at_call 28; refine (HA.out).mono ?_; rintro e w1 ⟨rfl, g1⟩; obtain ⟨p0, p1, p2, _, _, _⟩ := B0.out.gr g1)
        | (go_at_call 30; refine (HL.out _).mono ?_; rintro e w2 ⟨rfl, g2⟩))
      go_ret
      exact ⟨rfl, (G0.out.trans g1).trans g2⟩
    case true =>
      go_enter Try.func65, Try.ntmps65
      go_wp2_with (first
        | (go_at_call 28; refine (HA.out).mono ?_; rintro e w1 ⟨rfl, g1⟩; obtain ⟨p0, p1, p2, _, _, _⟩ := B0.out.gr g1)
        | (go_at_call 30; refine (HL.out _).mono ?_; rintro e w2 ⟨rfl, g2⟩))
      go_ret
      exact ⟨rfl, (G0.out.trans g1).trans g2⟩

theorem asked_any (a : Option Addr) (n c : Nat) (X Y : Nat → Int) (A B D : Int) (w : World) (hn : n ≤ 1000) (hr : RdM w a n X Y) :
    Calls Try.prog 68 #[.slice a n c, .agg #[.int .i64 A, .int .i64 B, .int .i64 D]] w (RetI (asE n X Y A B D) w) := by
  have G0 := Lib.hid ((Gr.refl w).alloc (.cells #[.int .i64 A, .int .i64 B, .int .i64 D] 37))
  have B0 := Lib.hid (show Box3 (w.alloc (.cells #[.int .i64 A, .int .i64 B, .int .i64 D] 37)) w.heap.size A B D from Box3.new rfl)
  have HA := Lib.hid (refValid_any a n c X Y (w.alloc (.cells #[.int .i64 A, .int .i64 B, .int .i64 D] 37)) hn (hr.gr G0.out))
  have HL := Lib.hid (fun w' => refValidLine_any A B D w')
  have E := Lib.hid (show asE n X Y A B D = if vP n X Y then (if inLB A B D then 0 else 51) else 50 from rfl)
  rw [E.out]
  clear hr hn E
  generalize vP n X Y = b1 at *
  generalize inLB A B D = b2 at *
  cases b1
  case false =>
    go_enter Try.func68, Try.ntmps68
    go_wp2_with (go_at_call 29; refine (HA.out).mono ?_; rintro e w1 ⟨rfl, g1⟩)
    go_ret
    exact ⟨rfl, G0.out.trans g1⟩
  case true =>
    cases b2
    case false =>
      go_enter Try.func68, Try.ntmps68
      go_wp2_with (first
        | (go_at_call 29; refine (HA.out).mono ?_; rintro e w1 ⟨rfl, g1⟩; obtain ⟨p0, p1, p2, _, _, _⟩ := B0.out.gr g1)
        | (go_at_call 31; refine (HL.out _).mono ?_; rintro e w2 ⟨rfl, g2⟩))
      go_ret
      exact ⟨rfl, (G0.out.trans g1).trans g2⟩
    case true =>
      go_enter Try.func68, Try.ntmps68
      go_wp2_with (first
        | (go_at_call 29; refine (HA.out).mono ?_; rintro e w1 ⟨rfl, g1⟩; obtain ⟨p0, p1, p2, _, _, _⟩ := B0.out.gr g1)
        | (go_at_call 31; refine (HL.out _).mono ?_; rintro e w2 ⟨rfl, g2⟩))
      go_ret
      exact ⟨rfl, (G0.out.trans g1).trans g2⟩

end Go.Proofs.Ytbhndfnfohoidaa

namespace Go.Proofs.Ytbhndfnfohoidaa
open Go.RowKit Go.Firn

/-- A ratio that is told where nothing is wrong. -/
def okN (E N : Int) : Int := if E = 0 then N else 0
theorem asE_ok {n : Nat} {X Y : Nat → Int} {A B D : Int} (h : asE n X Y A B D = 0) : VP n X Y ∧ InL A B D := by
  unfold asE at h
  cases h1 : vP n X Y
  · rw [h1] at h; cases h
  · cases h2 : inLB A B D
    · rw [h1, h2] at h; cases h
    · exact ⟨vP_iff.1 h1, inLB_iff.1 h2⟩

set_option maxHeartbeats 1000000 in
theorem Cost_any (a : Option Addr) (n c : Nat) (X Y : Nat → Int) (A B D : Int) (w : World) (hn : n ≤ 1000) (hr : RdM w a n X Y) :
    Calls Try.prog 33 #[.slice a n c, .agg #[.int .i64 A, .int .i64 B, .int .i64 D]] w (RetRE (okN (asE n X Y A B D) (rN (sumA X Y A B D n) D)) (okN (asE n X Y A B D) (rD (sumA X Y A B D n) D)) (asE n X Y A B D) w) := by
  obtain ⟨W0, hW0⟩ : ∃ W0, ((w.alloc (.cells #[.int .i64 A, .int .i64 B, .int .i64 D] 37)).alloc (.cells #[.int .i64 0, .int .i64 0] 27)) = W0 := ⟨_, rfl⟩
  have G0 := Lib.hid (show Gr w W0 by rw [← hW0]; exact ((Gr.refl w).alloc _).alloc _)
  have B3 := Lib.hid (show Box3 W0 w.heap.size A B D by rw [← hW0]; exact (Box3.new rfl).gr ((Gr.refl _).alloc _))
  have B4 := Lib.hid (show Box2 W0 (w.heap.size + 1) 0 0 by rw [← hW0]; exact Box2.new (by simp))
  obtain ⟨l0, l1, l2, f0, f1, f2⟩ := B3.out
  have HA := Lib.hid (lined_any a n c X Y A B D W0 hn (hr.gr G0.out))
  by_cases he : asE n X Y A B D = 0
  case neg =>
    have e1 : okN (asE n X Y A B D) (rN (sumA X Y A B D n) D) = 0 := if_neg he
    have e2 : okN (asE n X Y A B D) (rD (sumA X Y A B D n) D) = 0 := if_neg he
    rw [e1, e2]
    clear e1 e2 hr hn
    generalize asE n X Y A B D = E at *
    have d1 : (E != 0) = true := by simpa using he
    have d2 : (E == 0) = false := by simpa using he
    go_enter Try.func33, Try.ntmps33
    go_wp2_with (go_at_call 65; refine (HA.out).mono ?_; rintro e w1 ⟨rfl, g1⟩; obtain ⟨p0, p1, p2, p3⟩ := B4.out.gr g1)
    obtain ⟨z0, z1, _, _⟩ := (show Box2 w1 (w.heap.size + 1) 0 0 from ⟨p0, p1, p2, p3⟩).put (x' := 0) (y' := 0)
    exact bodyPost_ret (v := .tuple #[.agg #[.int .i64 0, .int .i64 0], .int .i64 E]) (by simp [results, Try.results33, go_sem, z0, z1]) rfl ⟨rfl, ((G0.out.trans g1).setCell (by simp) _).setCell (by simp) _⟩
  case pos =>
    obtain ⟨V, IL⟩ := asE_ok he
    have n12 := V.few
    rw [he] at HA
    rw [he]
    have e1 : okN 0 (rN (sumA X Y A B D n) D) = rN (sumA X Y A B D n) D := if_pos rfl
    have e2 : okN 0 (rD (sumA X Y A B D n) D) = rD (sumA X Y A B D n) D := if_pos rfl
    rw [e1, e2]
    clear e1 e2 he
    have HR := Lib.hid hr
    have OK := Lib.hid V.ok
    have HL := Lib.hid IL
    have D1 := IL.2.2.1
    have D2 := IL.2.2.2
    have BS := sumA_bd V.ok IL (Nat.le_refl n)
    clear hr V IL
    have HC := Lib.hid (fun w1 (g : Gr W0 w1) => cost_any a n c X Y A B D w1 n12 ((HR.out.gr G0.out).gr g) OK.out HL.out)
    clear BS
    go_enter Try.func33, Try.ntmps33
    go_wp2_with (first
      | (go_at_call 65; refine (HA.out).mono ?_; rintro e w1 ⟨rfl, g1⟩; have G1 := Lib.hid g1; obtain ⟨l0, l1, l2, f0, f1, f2⟩ := B3.out.gr g1; clear g1)
      | (go_at_call 59; refine (HC.out _ G1.out).mono ?_; rintro e w2 ⟨rfl, g2⟩; have Gw2 := Lib.hid ((G0.out.trans G1.out).trans g2); obtain ⟨q0, q1, q2, q3⟩ := B4.out.gr (G1.out.trans g2); clear g2))
    obtain ⟨z0, z1, _, _⟩ := (show Box2 w2 (w.heap.size + 1) 0 0 from ⟨q0, q1, q2, q3⟩).put (x' := rN (sumA X Y A B D n) D) (y' := rD (sumA X Y A B D n) D)
    exact bodyPost_ret (v := .tuple #[.agg #[.int .i64 (rN (sumA X Y A B D n) D), .int .i64 (rD (sumA X Y A B D n) D)], .int .i64 0]) (by simp [results, Try.results33, go_sem, z0, z1]) rfl ⟨rfl, (Gw2.out.setCell (by simp) _).setCell (by simp) _⟩

set_option maxHeartbeats 1000000 in
theorem refCost_any (a : Option Addr) (n c : Nat) (X Y : Nat → Int) (A B D : Int) (w : World) (hn : n ≤ 1000) (hr : RdM w a n X Y) :
    Calls Try.prog 34 #[.slice a n c, .agg #[.int .i64 A, .int .i64 B, .int .i64 D]] w (RetRE (okN (asE n X Y A B D) (rN (sumA X Y A B D n) D)) (okN (asE n X Y A B D) (rD (sumA X Y A B D n) D)) (asE n X Y A B D) w) := by
  obtain ⟨W0, hW0⟩ : ∃ W0, ((w.alloc (.cells #[.int .i64 A, .int .i64 B, .int .i64 D] 37)).alloc (.cells #[.int .i64 0, .int .i64 0] 27)) = W0 := ⟨_, rfl⟩
  have G0 := Lib.hid (show Gr w W0 by rw [← hW0]; exact ((Gr.refl w).alloc _).alloc _)
  have B3 := Lib.hid (show Box3 W0 w.heap.size A B D by rw [← hW0]; exact (Box3.new rfl).gr ((Gr.refl _).alloc _))
  have B4 := Lib.hid (show Box2 W0 (w.heap.size + 1) 0 0 by rw [← hW0]; exact Box2.new (by simp))
  obtain ⟨l0, l1, l2, f0, f1, f2⟩ := B3.out
  have HA := Lib.hid (asked_any a n c X Y A B D W0 hn (hr.gr G0.out))
  by_cases he : asE n X Y A B D = 0
  case neg =>
    have e1 : okN (asE n X Y A B D) (rN (sumA X Y A B D n) D) = 0 := if_neg he
    have e2 : okN (asE n X Y A B D) (rD (sumA X Y A B D n) D) = 0 := if_neg he
    rw [e1, e2]
    clear e1 e2 hr hn
    generalize asE n X Y A B D = E at *
    have d1 : (E != 0) = true := by simpa using he
    have d2 : (E == 0) = false := by simpa using he
    go_enter Try.func34, Try.ntmps34
    go_wp2_with (go_at_call 68; refine (HA.out).mono ?_; rintro e w1 ⟨rfl, g1⟩; obtain ⟨p0, p1, p2, p3⟩ := B4.out.gr g1)
    obtain ⟨z0, z1, _, _⟩ := (show Box2 w1 (w.heap.size + 1) 0 0 from ⟨p0, p1, p2, p3⟩).put (x' := 0) (y' := 0)
    exact bodyPost_ret (v := .tuple #[.agg #[.int .i64 0, .int .i64 0], .int .i64 E]) (by simp [results, Try.results34, go_sem, z0, z1]) rfl ⟨rfl, ((G0.out.trans g1).setCell (by simp) _).setCell (by simp) _⟩
  case pos =>
    obtain ⟨V, IL⟩ := asE_ok he
    have n12 := V.few
    rw [he] at HA
    rw [he]
    have e1 : okN 0 (rN (sumA X Y A B D n) D) = rN (sumA X Y A B D n) D := if_pos rfl
    have e2 : okN 0 (rD (sumA X Y A B D n) D) = rD (sumA X Y A B D n) D := if_pos rfl
    rw [e1, e2]
    clear e1 e2 he
    have HR := Lib.hid hr
    have OK := Lib.hid V.ok
    have HL := Lib.hid IL
    have D1 := IL.2.2.1
    have D2 := IL.2.2.2
    have BS := sumA_bd V.ok IL (Nat.le_refl n)
    clear hr V IL
    have HC := Lib.hid (fun w1 (g : Gr W0 w1) => sums_any a n c X Y A B D w1 n12 ((HR.out.gr G0.out).gr g) OK.out HL.out)
    have CR := Lib.hid (fun w' => Ratio_any (sumA X Y A B D n) D w' (by unfold Sz; omega) (by unfold Sz; omega) (by omega))
    clear BS
    go_enter Try.func34, Try.ntmps34
    go_wp2_with (first
      | (go_at_call 68; refine (HA.out).mono ?_; rintro e w1 ⟨rfl, g1⟩; have G1 := Lib.hid g1; obtain ⟨l0, l1, l2, f0, f1, f2⟩ := B3.out.gr g1; clear g1)
      | (go_at_call 62; refine (HC.out _ G1.out).mono ?_; rintro e w2 ⟨rfl, g2⟩; have G2 := Lib.hid (G1.out.trans g2); obtain ⟨m0, m1, m2, _, _, _⟩ := B3.out.gr G2.out; clear g2)
      | (go_at_call 44; refine (CR.out _).mono ?_; rintro e w3 ⟨rfl, g3⟩; have Gw3 := Lib.hid ((G0.out.trans G2.out).trans g3); obtain ⟨q0, q1, q2, q3⟩ := B4.out.gr (G2.out.trans g3); clear g3))
    obtain ⟨z0, z1, _, _⟩ := (show Box2 w3 (w.heap.size + 1) 0 0 from ⟨q0, q1, q2, q3⟩).put (x' := rN (sumA X Y A B D n) D) (y' := rD (sumA X Y A B D n) D)
    exact bodyPost_ret (v := .tuple #[.agg #[.int .i64 (rN (sumA X Y A B D n) D), .int .i64 (rD (sumA X Y A B D n) D)], .int .i64 0]) (by simp [results, Try.results34, go_sem, z0, z1]) rfl ⟨rfl, (Gw3.out.setCell (by simp) _).setCell (by simp) _⟩

set_option maxHeartbeats 1000000 in
theorem Width_any (a : Option Addr) (n c : Nat) (X Y : Nat → Int) (A B D : Int) (w : World) (hn : n ≤ 1000) (hr : RdM w a n X Y) :
    Calls Try.prog 35 #[.slice a n c, .agg #[.int .i64 A, .int .i64 B, .int .i64 D]] w (RetRE (okN (asE n X Y A B D) (rN (maxA X Y A B D n) D)) (okN (asE n X Y A B D) (rD (maxA X Y A B D n) D)) (asE n X Y A B D) w) := by
  obtain ⟨W0, hW0⟩ : ∃ W0, ((w.alloc (.cells #[.int .i64 A, .int .i64 B, .int .i64 D] 37)).alloc (.cells #[.int .i64 0, .int .i64 0] 27)) = W0 := ⟨_, rfl⟩
  have G0 := Lib.hid (show Gr w W0 by rw [← hW0]; exact ((Gr.refl w).alloc _).alloc _)
  have B3 := Lib.hid (show Box3 W0 w.heap.size A B D by rw [← hW0]; exact (Box3.new rfl).gr ((Gr.refl _).alloc _))
  have B4 := Lib.hid (show Box2 W0 (w.heap.size + 1) 0 0 by rw [← hW0]; exact Box2.new (by simp))
  obtain ⟨l0, l1, l2, f0, f1, f2⟩ := B3.out
  have HA := Lib.hid (lined_any a n c X Y A B D W0 hn (hr.gr G0.out))
  by_cases he : asE n X Y A B D = 0
  case neg =>
    have e1 : okN (asE n X Y A B D) (rN (maxA X Y A B D n) D) = 0 := if_neg he
    have e2 : okN (asE n X Y A B D) (rD (maxA X Y A B D n) D) = 0 := if_neg he
    rw [e1, e2]
    clear e1 e2 hr hn
    generalize asE n X Y A B D = E at *
    have d1 : (E != 0) = true := by simpa using he
    have d2 : (E == 0) = false := by simpa using he
    go_enter Try.func35, Try.ntmps35
    go_wp2_with (go_at_call 65; refine (HA.out).mono ?_; rintro e w1 ⟨rfl, g1⟩; obtain ⟨p0, p1, p2, p3⟩ := B4.out.gr g1)
    obtain ⟨z0, z1, _, _⟩ := (show Box2 w1 (w.heap.size + 1) 0 0 from ⟨p0, p1, p2, p3⟩).put (x' := 0) (y' := 0)
    exact bodyPost_ret (v := .tuple #[.agg #[.int .i64 0, .int .i64 0], .int .i64 E]) (by simp [results, Try.results35, go_sem, z0, z1]) rfl ⟨rfl, ((G0.out.trans g1).setCell (by simp) _).setCell (by simp) _⟩
  case pos =>
    obtain ⟨V, IL⟩ := asE_ok he
    have n12 := V.few
    rw [he] at HA
    rw [he]
    have e1 : okN 0 (rN (maxA X Y A B D n) D) = rN (maxA X Y A B D n) D := if_pos rfl
    have e2 : okN 0 (rD (maxA X Y A B D n) D) = rD (maxA X Y A B D n) D := if_pos rfl
    rw [e1, e2]
    clear e1 e2 he
    have HR := Lib.hid hr
    have OK := Lib.hid V.ok
    have HL := Lib.hid IL
    have D1 := IL.2.2.1
    have D2 := IL.2.2.2
    have BS := maxA_bd V.ok IL (Nat.le_refl n)
    clear hr V IL
    have CR := Lib.hid (fun w' => ratio_any (maxA X Y A B D n) D w' (by unfold Sz; omega) (by unfold Sz; omega) (by omega))
    clear BS
    go_enter Try.func35, Try.ntmps35
    go_wp2_with (go_at_call 65; refine (HA.out).mono ?_; rintro e w1 ⟨rfl, g1⟩; have G1 := Lib.hid g1; clear g1)
    clear l0 l1 l2 f0 f1 f2
    go_loopw [7, 19] (fun sm sk wr => ∃ k : Nat, k ≤ n ∧ sk = .int .i64 k ∧ sm = .int .i64 (maxA X Y A B D k) ∧ Gr W0 wr) (fun _ sk _ => n - (intOf sk).toNat)
    case atStart => exact ⟨0, Nat.zero_le _, rfl, rfl, G1.out⟩
    case round =>
      obtain ⟨k, hk, rfl, rfl, hg⟩ := hrel
      obtain ⟨l0, l1, l2, f0, f1, f2⟩ := B3.out.gr hg
      have lw : w.heap.size < wr.heap.size := World.block_lt_of_cell? wr _ l0
      by_cases hlt : k < n
      · obtain ⟨b, o, ea, hc⟩ := (HR.out.gr (G0.out.trans hg)).at hlt
        subst ea
        obtain ⟨c1, c2⟩ := hc k hlt
        have i1 : (k : Int) < n := by omega
        have RB := (rs_bd (OK.out k hlt) HL.out).2.2
        have C := Lib.hid (fun w' => rest_any (X k) (Y k) A B D w' (OK.out k hlt) HL.out)
        have CA := Lib.hid (fun w' => abs_any (rs (X k) (Y k) A B D) w' (by unfold Sz; omega))
        have M := Lib.hid (show maxA X Y A B D (k + 1) = max (maxA X Y A B D k) (ab (rs (X k) (Y k) A B D)) from rfl)
        generalize maxA X Y A B D k = m at *
        generalize rs (X k) (Y k) A B D = r at *
        generalize ab r = t at *
        clear hc RB
        go_wp2_with (first
          | (go_at_call 67; (with_reducible refine (C.out _).mono ?_); rintro e w1 ⟨rfl, g1⟩)
          | (go_at_call 75; (with_reducible refine (CA.out _).mono ?_); rintro e w2 ⟨rfl, rfl⟩))
        go_roundw
        case rel => exact ⟨k + 1, by omega, by go_num, by rw [M.out]; congr 1; split <;> omega, (hg.alloc _).trans g1⟩
        case measure => simp [intOf]; omega
      · obtain rfl : k = n := by omega
        obtain ⟨p0, p1, p2, p3⟩ := B4.out.gr hg
        go_wp2_with (go_at_call 66; (with_reducible refine (CR.out _).mono ?_); rintro e w2 ⟨rfl, g2⟩; have Gw2 := Lib.hid ((G0.out.trans hg).trans g2); obtain ⟨q0, q1, q2, q3⟩ := B4.out.gr (hg.trans g2))
        obtain ⟨z0, z1, _, _⟩ := (show Box2 w2 (w.heap.size + 1) 0 0 from ⟨q0, q1, q2, q3⟩).put (x' := rN (maxA X Y A B D k) D) (y' := rD (maxA X Y A B D k) D)
        exact bodyPost_ret (v := .tuple #[.agg #[.int .i64 (rN (maxA X Y A B D k) D), .int .i64 (rD (maxA X Y A B D k) D)], .int .i64 0]) (by simp [results, Try.results35, go_sem, z0, z1]) rfl ⟨rfl, (Gw2.out.setCell (by simp) _).setCell (by simp) _⟩

set_option maxHeartbeats 1000000 in
theorem refWidth_any (a : Option Addr) (n c : Nat) (X Y : Nat → Int) (A B D : Int) (w : World) (hn : n ≤ 1000) (hr : RdM w a n X Y) :
    Calls Try.prog 36 #[.slice a n c, .agg #[.int .i64 A, .int .i64 B, .int .i64 D]] w (RetRE (okN (asE n X Y A B D) (rN (maxA X Y A B D n) D)) (okN (asE n X Y A B D) (rD (maxA X Y A B D n) D)) (asE n X Y A B D) w) := by
  obtain ⟨W0, hW0⟩ : ∃ W0, ((w.alloc (.cells #[.int .i64 A, .int .i64 B, .int .i64 D] 37)).alloc (.cells #[.int .i64 0, .int .i64 0] 27)) = W0 := ⟨_, rfl⟩
  have G0 := Lib.hid (show Gr w W0 by rw [← hW0]; exact ((Gr.refl w).alloc _).alloc _)
  have B3 := Lib.hid (show Box3 W0 w.heap.size A B D by rw [← hW0]; exact (Box3.new rfl).gr ((Gr.refl _).alloc _))
  have B4 := Lib.hid (show Box2 W0 (w.heap.size + 1) 0 0 by rw [← hW0]; exact Box2.new (by simp))
  obtain ⟨l0, l1, l2, f0, f1, f2⟩ := B3.out
  have HA := Lib.hid (asked_any a n c X Y A B D W0 hn (hr.gr G0.out))
  by_cases he : asE n X Y A B D = 0
  case neg =>
    have e1 : okN (asE n X Y A B D) (rN (maxA X Y A B D n) D) = 0 := if_neg he
    have e2 : okN (asE n X Y A B D) (rD (maxA X Y A B D n) D) = 0 := if_neg he
    rw [e1, e2]
    clear e1 e2 hr hn
    generalize asE n X Y A B D = E at *
    have d1 : (E != 0) = true := by simpa using he
    have d2 : (E == 0) = false := by simpa using he
    go_enter Try.func36, Try.ntmps36
    go_wp2_with (go_at_call 68; refine (HA.out).mono ?_; rintro e w1 ⟨rfl, g1⟩; obtain ⟨p0, p1, p2, p3⟩ := B4.out.gr g1)
    obtain ⟨z0, z1, _, _⟩ := (show Box2 w1 (w.heap.size + 1) 0 0 from ⟨p0, p1, p2, p3⟩).put (x' := 0) (y' := 0)
    exact bodyPost_ret (v := .tuple #[.agg #[.int .i64 0, .int .i64 0], .int .i64 E]) (by simp [results, Try.results36, go_sem, z0, z1]) rfl ⟨rfl, ((G0.out.trans g1).setCell (by simp) _).setCell (by simp) _⟩
  case pos =>
    obtain ⟨V, IL⟩ := asE_ok he
    have n12 := V.few
    rw [he] at HA
    rw [he]
    have e1 : okN 0 (rN (maxA X Y A B D n) D) = rN (maxA X Y A B D n) D := if_pos rfl
    have e2 : okN 0 (rD (maxA X Y A B D n) D) = rD (maxA X Y A B D n) D := if_pos rfl
    rw [e1, e2]
    clear e1 e2 he
    have HR := Lib.hid hr
    have OK := Lib.hid V.ok
    have HL := Lib.hid IL
    have D1 := IL.2.2.1
    have D2 := IL.2.2.2
    have BS := maxA_bd V.ok IL (Nat.le_refl n)
    clear hr V IL
    have HC := Lib.hid (fun w1 (g : Gr W0 w1) => sums_any a n c X Y A B D w1 n12 ((HR.out.gr G0.out).gr g) OK.out HL.out)
    have CR := Lib.hid (fun w' => Ratio_any (maxA X Y A B D n) D w' (by unfold Sz; omega) (by unfold Sz; omega) (by omega))
    clear BS
    go_enter Try.func36, Try.ntmps36
    go_wp2_with (first
      | (go_at_call 68; refine (HA.out).mono ?_; rintro e w1 ⟨rfl, g1⟩; have G1 := Lib.hid g1; obtain ⟨l0, l1, l2, f0, f1, f2⟩ := B3.out.gr g1; clear g1)
      | (go_at_call 62; refine (HC.out _ G1.out).mono ?_; rintro e w2 ⟨rfl, g2⟩; have G2 := Lib.hid (G1.out.trans g2); obtain ⟨m0, m1, m2, _, _, _⟩ := B3.out.gr G2.out; clear g2)
      | (go_at_call 44; refine (CR.out _).mono ?_; rintro e w3 ⟨rfl, g3⟩; have Gw3 := Lib.hid ((G0.out.trans G2.out).trans g3); obtain ⟨q0, q1, q2, q3⟩ := B4.out.gr (G2.out.trans g3); clear g3))
    obtain ⟨z0, z1, _, _⟩ := (show Box2 w3 (w.heap.size + 1) 0 0 from ⟨q0, q1, q2, q3⟩).put (x' := rN (maxA X Y A B D n) D) (y' := rD (maxA X Y A B D n) D)
    exact bodyPost_ret (v := .tuple #[.agg #[.int .i64 (rN (maxA X Y A B D n) D), .int .i64 (rD (maxA X Y A B D n) D)], .int .i64 0]) (by simp [results, Try.results36, go_sem, z0, z1]) rfl ⟨rfl, (Gw3.out.setCell (by simp) _).setCell (by simp) _⟩

end Go.Proofs.Ytbhndfnfohoidaa
