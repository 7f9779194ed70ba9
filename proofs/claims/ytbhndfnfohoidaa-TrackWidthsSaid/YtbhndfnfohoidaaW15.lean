/- Contracts of chapter 5: valid lines; what is asked of points and a line. -/
import Derived.Test.YtbhndfnfohoidaaW13
namespace Go.Proofs.Ytbhndfnfohoidaa
open Go.RowKit Go.Firn

/-- Whether a line is in range. -/
def inLB (A B D : Int) : Bool := btw (-1000000) A 1000000 && btw (-100000000) B 100000000 && btw 1 D 10000
theorem inLB_iff {A B D : Int} : inLB A B D = true ↔ InL A B D := by
  unfold inLB InL
  rw [Bool.and_eq_true, Bool.and_eq_true, btw_true, btw_true, btw_true]
  exact ⟨fun ⟨⟨a, b⟩, c⟩ => ⟨a, b, c⟩, fun ⟨a, b, c⟩ => ⟨⟨a, b⟩, c⟩⟩
theorem inLB_no {A B D : Int} (h : ¬ InL A B D) : inLB A B D = false := by
  rw [Bool.eq_false_iff]; exact fun e => h (inLB_iff.1 e)

theorem ValidLine_any (A B D : Int) (w : World) : Calls Try.prog 30 #[.agg #[.int .i64 A, .int .i64 B, .int .i64 D]] w (RetB (inLB A B D) w) := by
  have C1 := Lib.hid (fun w' => between_any (-1000000) A 1000000 w')
  have C2 := Lib.hid (fun w' => between_any (-100000000) B 100000000 w')
  have C3 := Lib.hid (fun w' => between_any 1 D 10000 w')
  have E := Lib.hid (show inLB A B D = (btw (-1000000) A 1000000 && btw (-100000000) B 100000000 && btw 1 D 10000) from rfl)
  generalize btw (-1000000) A 1000000 = b1 at *
  generalize btw (-100000000) B 100000000 = b2 at *
  generalize btw 1 D 10000 = b3 at *
  rw [E.out]
  clear E
  cases b1
  case false =>
    go_enter Try.func30, Try.ntmps30
    go_wp2_with (go_at_call 70; first
      | ((with_reducible refine (C1.out _).mono ?_); rintro e w1 ⟨rfl, rfl⟩)
      | ((with_reducible refine (C2.out _).mono ?_); rintro e w1 ⟨rfl, rfl⟩)
      | ((with_reducible refine (C3.out _).mono ?_); rintro e w1 ⟨rfl, rfl⟩))
    go_ret
    exact ⟨rfl, (Gr.refl w).alloc _⟩
  case true =>
    cases b2
    case false =>
      go_enter Try.func30, Try.ntmps30
      go_wp2_with (go_at_call 70; first
        | ((with_reducible refine (C1.out _).mono ?_); rintro e w1 ⟨rfl, rfl⟩)
        | ((with_reducible refine (C2.out _).mono ?_); rintro e w1 ⟨rfl, rfl⟩)
        | ((with_reducible refine (C3.out _).mono ?_); rintro e w1 ⟨rfl, rfl⟩))
      go_ret
      exact ⟨rfl, (Gr.refl w).alloc _⟩
    case true =>
      go_enter Try.func30, Try.ntmps30
      go_wp2_with (go_at_call 70; first
        | ((with_reducible refine (C1.out _).mono ?_); rintro e w1 ⟨rfl, rfl⟩)
        | ((with_reducible refine (C2.out _).mono ?_); rintro e w1 ⟨rfl, rfl⟩)
        | ((with_reducible refine (C3.out _).mono ?_); rintro e w1 ⟨rfl, rfl⟩))
      go_ret
      exact ⟨by simp, (Gr.refl w).alloc _⟩

set_option maxHeartbeats 1000000 in
theorem refValidLine_any (A B D : Int) (w : World) : Calls Try.prog 31 #[.agg #[.int .i64 A, .int .i64 B, .int .i64 D]] w (RetB (inLB A B D) w) := by
  by_cases h1 : -1000000 ≤ A
  case neg =>
    rw [show inLB A B D = false from inLB_no (fun e => by unfold InL at e; omega)]
    have d1 : decide (-1000000 ≤ A) = false := by simpa using h1
    go_enter Try.func31, Try.ntmps31
    go_wp2_with fail
    go_ret
    exact ⟨rfl, (Gr.refl w).alloc _⟩
  case pos =>
    by_cases h2 : A ≤ 1000000
    case neg =>
      rw [show inLB A B D = false from inLB_no (fun e => by unfold InL at e; omega)]
      have d1 : decide (-1000000 ≤ A) = true := by simpa using h1
      have d2 : decide (A ≤ 1000000) = false := by simpa using h2
      go_enter Try.func31, Try.ntmps31
      go_wp2_with fail
      go_ret
      exact ⟨rfl, (Gr.refl w).alloc _⟩
    case pos =>
      by_cases h3 : -100000000 ≤ B
      case neg =>
        rw [show inLB A B D = false from inLB_no (fun e => by unfold InL at e; omega)]
        have d1 : decide (-1000000 ≤ A) = true := by simpa using h1
        have d2 : decide (A ≤ 1000000) = true := by simpa using h2
        have d3 : decide (-100000000 ≤ B) = false := by simpa using h3
        go_enter Try.func31, Try.ntmps31
        go_wp2_with fail
        go_ret
        exact ⟨rfl, (Gr.refl w).alloc _⟩
      case pos =>
        by_cases h4 : B ≤ 100000000
        case neg =>
          rw [show inLB A B D = false from inLB_no (fun e => by unfold InL at e; omega)]
          have d1 : decide (-1000000 ≤ A) = true := by simpa using h1
          have d2 : decide (A ≤ 1000000) = true := by simpa using h2
          have d3 : decide (-100000000 ≤ B) = true := by simpa using h3
          have d4 : decide (B ≤ 100000000) = false := by simpa using h4
          go_enter Try.func31, Try.ntmps31
          go_wp2_with fail
          go_ret
          exact ⟨rfl, (Gr.refl w).alloc _⟩
        case pos =>
          by_cases h5 : 1 ≤ D
          case neg =>
            rw [show inLB A B D = false from inLB_no (fun e => by unfold InL at e; omega)]
            have d1 : decide (-1000000 ≤ A) = true := by simpa using h1
            have d2 : decide (A ≤ 1000000) = true := by simpa using h2
            have d3 : decide (-100000000 ≤ B) = true := by simpa using h3
            have d4 : decide (B ≤ 100000000) = true := by simpa using h4
            have d5 : decide (1 ≤ D) = false := by simpa using h5
            go_enter Try.func31, Try.ntmps31
            go_wp2_with fail
            go_ret
            exact ⟨rfl, (Gr.refl w).alloc _⟩
          case pos =>
            by_cases h6 : D ≤ 10000
            case neg =>
              rw [show inLB A B D = false from inLB_no (fun e => by unfold InL at e; omega)]
              have d1 : decide (-1000000 ≤ A) = true := by simpa using h1
              have d2 : decide (A ≤ 1000000) = true := by simpa using h2
              have d3 : decide (-100000000 ≤ B) = true := by simpa using h3
              have d4 : decide (B ≤ 100000000) = true := by simpa using h4
              have d5 : decide (1 ≤ D) = true := by simpa using h5
              have d6 : decide (D ≤ 10000) = false := by simpa using h6
              go_enter Try.func31, Try.ntmps31
              go_wp2_with fail
              go_ret
              exact ⟨rfl, (Gr.refl w).alloc _⟩
            case pos =>
              have d1 : decide (-1000000 ≤ A) = true := by simpa using h1
              have d2 : decide (A ≤ 1000000) = true := by simpa using h2
              have d3 : decide (-100000000 ≤ B) = true := by simpa using h3
              have d4 : decide (B ≤ 100000000) = true := by simpa using h4
              have d5 : decide (1 ≤ D) = true := by simpa using h5
              have d6 : decide (D ≤ 10000) = true := by simpa using h6
              rw [show inLB A B D = true from inLB_iff.2 (by unfold InL; omega)]
              go_enter Try.func31, Try.ntmps31
              go_wp2_with fail
              go_ret
              exact ⟨rfl, (Gr.refl w).alloc _⟩

/-- What is wrong with points and a line. -/
def asE (n : Nat) (X Y : Nat → Int) (A B D : Int) : Int := if vP n X Y then (if inLB A B D then 0 else 51) else 50

theorem lined_any (a : Option Addr) (n c : Nat) (X Y : Nat → Int) (A B D : Int) (w : World) (hn : n ≤ 1000) (hr : RdM w a n X Y) :
    Calls Try.prog 65 #[.slice a n c, .agg #[.int .i64 A, .int .i64 B, .int .i64 D]] w (RetI (asE n X Y A B D) w) := by
  have G0 := Lib.hid ((Gr.refl w).alloc (.cells #[.int .i64 A, .int .i64 B, .int .i64 D] 37))
  have B0 := Lib.hid (show Box3 (w.alloc (.cells #[.int .i64 A, .int .i64 B, .int .i64 D] 37)) w.heap.size A B D from Box3.new rfl)
  have HA := Lib.hid (Valid_any a n c X Y (w.alloc (.cells #[.int .i64 A, .int .i64 B, .int .i64 D] 37)) hn (hr.gr G0.out))
  have HL := Lib.hid (fun w' => ValidLine_any A B D w')
  have E := Lib.hid (show asE n X Y A B D = if vP n X Y then (if inLB A B D then 0 else 51) else 50 from rfl)
  rw [E.out]
  clear hr hn E
  generalize vP n X Y = b1 at *
  generalize inLB A B D = b2 at *
  cases b1
  case false =>
    go_enter Try.func65, Try.ntmps65
    go_wp2_with (go_at_call 28; refine (HA.out).mono ?_; rintro e w1 ⟨rfl, g1⟩)
    go_ret
    exact ⟨rfl, G0.out.trans g1⟩
  case true =>
    cases b2
    case false =>
      go_enter Try.func65, Try.ntmps65
      go_wp2_with (first
        | (go_at_call 28; refine (HA.out).mono ?_; rintro e w1 ⟨rfl, g1⟩; obtain ⟨p0, p1, p2, _, _, _⟩ := B0.out.gr g1)
        | (go_at_call 30; refine (HL.out _).mono ?_; rintro e w2 ⟨rfl, g2⟩))
      go_ret
      exact ⟨rfl, (G0.out.trans g1).trans g2⟩
    case true =>
      go_enter Try.func65, Try.ntmps65
      go_wp2_with (first
        | (go_at_call 28; refine (HA.out).mono ?_; rintro e w1 ⟨rfl, g1⟩; obtain ⟨p0, p1, p2, _, _, _⟩ := B0.out.gr g1)
        | (go_at_call 30; refine (HL.out _).mono ?_; rintro e w2 ⟨rfl, g2⟩))
      go_ret
      exact ⟨rfl, (G0.out.trans g1).trans g2⟩

theorem asked_any (a : Option Addr) (n c : Nat) (X Y : Nat → Int) (A B D : Int) (w : World) (hn : n ≤ 1000) (hr : RdM w a n X Y) :
    Calls Try.prog 68 #[.slice a n c, .agg #[.int .i64 A, .int .i64 B, .int .i64 D]] w (RetI (asE n X Y A B D) w) := by
  have G0 := Lib.hid ((Gr.refl w).alloc (.cells #[.int .i64 A, .int .i64 B, .int .i64 D] 37))
  have B0 := Lib.hid (show Box3 (w.alloc (.cells #[.int .i64 A, .int .i64 B, .int .i64 D] 37)) w.heap.size A B D from Box3.new rfl)
  have HA := Lib.hid (refValid_any a n c X Y (w.alloc (.cells #[.int .i64 A, .int .i64 B, .int .i64 D] 37)) hn (hr.gr G0.out))
  have HL := Lib.hid (fun w' => refValidLine_any A B D w')
  have E := Lib.hid (show asE n X Y A B D = if vP n X Y then (if inLB A B D then 0 else 51) else 50 from rfl)
  rw [E.out]
  clear hr hn E
  generalize vP n X Y = b1 at *
  generalize inLB A B D = b2 at *
  cases b1
  case false =>
    go_enter Try.func68, Try.ntmps68
    go_wp2_with (go_at_call 29; refine (HA.out).mono ?_; rintro e w1 ⟨rfl, g1⟩)
    go_ret
    exact ⟨rfl, G0.out.trans g1⟩
  case true =>
    cases b2
    case false =>
      go_enter Try.func68, Try.ntmps68
      go_wp2_with (first
        | (go_at_call 29; refine (HA.out).mono ?_; rintro e w1 ⟨rfl, g1⟩; obtain ⟨p0, p1, p2, _, _, _⟩ := B0.out.gr g1)
        | (go_at_call 31; refine (HL.out _).mono ?_; rintro e w2 ⟨rfl, g2⟩))
      go_ret
      exact ⟨rfl, (G0.out.trans g1).trans g2⟩
    case true =>
      go_enter Try.func68, Try.ntmps68
      go_wp2_with (first
        | (go_at_call 29; refine (HA.out).mono ?_; rintro e w1 ⟨rfl, g1⟩; obtain ⟨p0, p1, p2, _, _, _⟩ := B0.out.gr g1)
        | (go_at_call 31; refine (HL.out _).mono ?_; rintro e w2 ⟨rfl, g2⟩))
      go_ret
      exact ⟨rfl, (G0.out.trans g1).trans g2⟩

end Go.Proofs.Ytbhndfnfohoidaa
