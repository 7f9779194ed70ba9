/- Contracts of chapter 7: which lists are cuts, of the program and of the reference; the error of odds and a cut. -/
import Derived.Test.YtohcnicadbpbbaaDoorW5
namespace Go.Proofs.YtohcnicadbpbbaaDoor
open Go.RowKit Go.Firn

theorem many_any (a : Option Addr) (n c : Nat) (t u v : Value) (w : World) :
    Calls Tryd.prog 55 #[.agg #[.slice a n c, t, u, v]] w fun e w' => e = .returned (.int .i64 n) ∧ Gr w w' := by
  have G0 := Lib.hid ((Gr.refl w).alloc (.cells #[.slice a n c, t, u, v] 58))
  obtain ⟨p0, p1, p2, p3, _⟩ := Box4.new (w := w) (e := 58) (s := .slice a n c) (t := t) (u := u) (v := v) rfl
  go_enter Tryd.func55, Tryd.ntmps55
  go_wp2_with fail
  go_ret
  exact ⟨rfl, G0.out⟩

/-- An index where a list is no cut. -/
def badI (n : Nat) (g : Nat → Int) (i : Nat) : Bool := !btw 0 (g i) ((n : Int) - 1) || (decide (0 < i) && decide (g i ≤ g (i - 1)))
/-- Which lists are cuts. -/
def cutB (n m : Nat) (g : Nat → Int) : Bool := !(anyP (badI n g) m)
theorem cutB_end {n m : Nat} {g : Nat → Int} (h : anyP (badI n g) m = false) : cutB n m g = true := by unfold cutB; rw [h]; rfl
theorem cutB_stop {n m k : Nat} {g : Nat → Int} (hk : k < m) (h : badI n g k = true) : cutB n m g = false := by unfold cutB; rw [anyP_stop hk h]; rfl
structure Cut (n m : Nat) (g : Nat → Int) : Prop where
  ok : ∀ i, i < m → 0 ≤ g i ∧ g i < n
  up : ∀ i, i + 1 < m → g i < g (i + 1)
theorem cutB_iff {n m : Nat} {g : Nat → Int} : cutB n m g = true ↔ Cut n m g := by
  unfold cutB
  rw [Bool.not_eq_true', anyP_none]
  constructor
  · intro h
    refine ⟨fun i hi => ?_, fun i hi => ?_⟩
    · have := h i hi
      unfold badI at this
      rw [Bool.or_eq_false_iff, Bool.not_eq_false', btw_true] at this
      omega
    · have := h (i + 1) hi
      unfold badI at this
      rw [Bool.or_eq_false_iff, decide_eq_true (Nat.succ_pos i), Bool.true_and, decide_eq_false_iff_not] at this
      have e : i + 1 - 1 = i := by omega
      rw [e] at this
      omega
  · intro h i hi
    unfold badI
    have a := h.ok i hi
    rw [btw_true.2 ⟨a.1, by omega⟩, Bool.not_true, Bool.false_or]
    cases i with
    | zero => rfl
    | succ j =>
      have := h.up j hi
      rw [show j + 1 - 1 = j by omega, decide_eq_false (show ¬ g (j + 1) ≤ g j by omega), Bool.and_false]
theorem Cut.far {n m : Nat} {g : Nat → Int} (h : Cut n m g) : ∀ {i : Nat}, i < m → (i : Int) ≤ g i
  | 0, hi => by have := h.ok 0 hi; omega
  | i + 1, hi => by
    have a := h.far (i := i) (by omega)
    have b := h.up i hi
    omega
theorem Cut.few {n m : Nat} {g : Nat → Int} (h : Cut n m g) : m ≤ n := by
  cases m with
  | zero => omega
  | succ k =>
    have a := h.far (i := k) (by omega)
    have b := h.ok k (by omega)
    omega

set_option maxHeartbeats 2000000 in
theorem isCut_any (a a2 : Option Addr) (n c m c2 : Nat) (t u v : Value) (g : Nat → Int) (w : World) (hn : n ≤ 1000) (hm : m ≤ 1000) (hr : RdI w a2 m g) :
    Calls Tryd.prog 70 #[.agg #[.slice a n c, t, u, v], .slice a2 m c2] w (RetB (cutB n m g) w) := by
  obtain ⟨W0, hW0⟩ : ∃ W0, w.alloc (.cells #[.slice a n c, t, u, v] 58) = W0 := ⟨_, rfl⟩
  have G0 := Lib.hid (show Gr w W0 by rw [← hW0]; exact (Gr.refl w).alloc _)
  have B := Lib.hid (show Box4 W0 w.heap.size (.slice a n c) t u v by rw [← hW0]; exact Box4.new rfl)
  have HR := Lib.hid hr
  have C54 := Lib.hid (fun wz => many_any a n c t u v wz)
  clear hr
  go_enter Tryd.func70, Tryd.ntmps70
  go_wp2_with fail
  go_loopw [9] (fun i wr => ∃ k : Nat, k ≤ m ∧ i = .int .i64 k ∧ Hid (anyP (badI n g) k = false) ∧ Hid (Gr W0 wr)) (fun i _ => m - (intOf i).toNat)
  case atStart => exact ⟨0, Nat.zero_le _, rfl, Lib.hid rfl, Lib.hid (Gr.refl _)⟩
  case round =>
    obtain ⟨k, hk, rfl, HI, hg2⟩ := hrel
    have hg := Lib.hid (G0.out.trans hg2.out)
    by_cases hlt : k < m
    · obtain ⟨b, o, rfl, hc⟩ := (HR.out.gr hg.out).at hlt
      have c1 := hc k hlt
      have i1 : (k : Int) < m := by omega
      obtain ⟨p0, p1, p2, p3, _⟩ := B.out.gr hg2.out
      have S := Lib.hid (anyP_succ (badI n g) k)
      have ST := Lib.hid (fun h => cutB_stop (n := n) (g := g) hlt h)
      have qn : IntKind.i64.wrap ((n : Int) - 1) = (n : Int) - 1 := IntWalk.i64_in _ (by omega)
      cases hb : btw 0 (g k) ((n : Int) - 1) with
      | false =>
        have HB := Lib.hid hb
        have E := Lib.hid (ST.out (by unfold badI; rw [hb]; rfl))
        have B60 := Lib.hid (fun wz => show Calls Tryd.prog 59 #[.int .i64 0, .int .i64 (g k), .int .i64 ((n : Int) - 1)] wz fun e w' => e = .returned (.bool false) ∧ wz = w' from by rw [← HB.out]; exact between_any 0 (g k) ((n : Int) - 1) wz)
        have hb' := btw_false.1 hb
        clear hc hlt S ST hb
        generalize g k = x at *
        clear hb'
        go_wp2_with (first
            | (go_at_call 55; (with_reducible refine (C54.out _).mono ?_); rintro e w1 ⟨rfl, g1⟩; have G1 := Lib.hid g1; clear g1)
            | (go_at_call 59; (with_reducible refine (B60.out _).mono ?_); rintro e w2 ⟨rfl, rfl⟩))
        go_ret
        rw [E.out]
        exact ⟨rfl, hg.out.trans G1.out⟩
      | true =>
        have HB := Lib.hid hb
        have B60 := Lib.hid (fun wz => show Calls Tryd.prog 59 #[.int .i64 0, .int .i64 (g k), .int .i64 ((n : Int) - 1)] wz fun e w' => e = .returned (.bool true) ∧ wz = w' from by rw [← HB.out]; exact between_any 0 (g k) ((n : Int) - 1) wz)
        obtain ⟨x0, x1⟩ := btw_true.1 hb
        clear x0 x1
        rcases Nat.eq_zero_or_pos k with hk0 | hk0
        · have S' := Lib.hid (show anyP (badI n g) (k + 1) = false by rw [S.out, HI.out]; unfold badI; rw [hb, hk0]; rfl)
          have i2 : ¬ (0 : Int) < k := by omega
          clear hc hlt S ST hb hk0
          generalize g k = x at *
          go_wp2_with (first
            | (go_at_call 55; (with_reducible refine (C54.out _).mono ?_); rintro e w1 ⟨rfl, g1⟩; have G1 := Lib.hid g1; clear g1)
            | (go_at_call 59; (with_reducible refine (B60.out _).mono ?_); rintro e w2 ⟨rfl, rfl⟩))
          go_roundw
          case rel => exact ⟨k + 1, by omega, by go_num, S', (Lib.hid (hg2.out.trans G1.out))⟩
          case measure => simp [intOf]; omega
        · have i2 : (0 : Int) < k := by omega
          have c3 := hc (k - 1) (by omega)
          have i3 : IntKind.i64.wrap ((k : Int) - 1) = ((k - 1 : Nat) : Int) := by rw [IntWalk.i64_in _ (by omega)]; omega
          have i4 : ((k - 1 : Nat) : Int) < m := by omega
          by_cases hu : g k ≤ g (k - 1)
          · have E := Lib.hid (ST.out (by unfold badI; rw [hb, decide_eq_true hk0, decide_eq_true hu]; rfl))
            clear hc hlt S ST hb hk0
            generalize g k = x at *
            generalize g (k - 1) = y at *
            go_wp2_with (first
            | (go_at_call 55; (with_reducible refine (C54.out _).mono ?_); rintro e w1 ⟨rfl, g1⟩; have G1 := Lib.hid g1; have c4 := g1.cell c3; clear c3; clear g1)
            | (go_at_call 59; (with_reducible refine (B60.out _).mono ?_); rintro e w2 ⟨rfl, rfl⟩))
            go_ret
            rw [E.out]
            exact ⟨rfl, hg.out.trans G1.out⟩
          · have S' := Lib.hid (show anyP (badI n g) (k + 1) = false by rw [S.out, HI.out]; unfold badI; rw [hb, decide_eq_true hk0, decide_eq_false hu]; rfl)
            clear hc hlt S ST hb hk0
            generalize g k = x at *
            generalize g (k - 1) = y at *
            go_wp2_with (first
            | (go_at_call 55; (with_reducible refine (C54.out _).mono ?_); rintro e w1 ⟨rfl, g1⟩; have G1 := Lib.hid g1; have c4 := g1.cell c3; clear c3; clear g1)
            | (go_at_call 59; (with_reducible refine (B60.out _).mono ?_); rintro e w2 ⟨rfl, rfl⟩))
            go_roundw
            case rel => exact ⟨k + 1, by omega, by go_num, S', (Lib.hid (hg2.out.trans G1.out))⟩
            case measure => simp [intOf]; omega
    · obtain rfl : k = m := by omega
      have E := Lib.hid (cutB_end HI.out)
      go_wp2_with fail
      go_ret
      rw [E.out]
      exact ⟨rfl, hg.out⟩

set_option maxHeartbeats 2000000 in
theorem refIsCut_any (a a2 : Option Addr) (n c m c2 : Nat) (t : Value) (g : Nat → Int) (w : World) (hm : m ≤ 1000) (hr : RdI w a2 m g) :
    Calls Tryd.prog 18 #[.agg #[.slice a n c, t], .slice a2 m c2] w (RetB (cutB n m g) w) := by
  obtain ⟨W0, hW0⟩ : ∃ W0, w.alloc (.cells #[.slice a n c, t] 24) = W0 := ⟨_, rfl⟩
  have G0 := Lib.hid (show Gr w W0 by rw [← hW0]; exact (Gr.refl w).alloc _)
  have B := Lib.hid (show BoxO W0 w.heap.size (.slice a n c) t by rw [← hW0]; exact BoxO.new rfl)
  have HR := Lib.hid hr
  clear hr
  go_enter Tryd.func18, Tryd.ntmps18
  go_wp2_with fail
  go_loopw [9] (fun i wr => ∃ k : Nat, k ≤ m ∧ i = .int .i64 k ∧ Hid (anyP (badI n g) k = false) ∧ Hid (Gr W0 wr)) (fun i _ => m - (intOf i).toNat)
  case atStart => exact ⟨0, Nat.zero_le _, rfl, Lib.hid rfl, Lib.hid (Gr.refl _)⟩
  case round =>
    obtain ⟨k, hk, rfl, HI, hg2⟩ := hrel
    have hg := Lib.hid (G0.out.trans hg2.out)
    by_cases hlt : k < m
    · obtain ⟨b, o, rfl, hc⟩ := (HR.out.gr hg.out).at hlt
      have c1 := hc k hlt
      have i1 : (k : Int) < m := by omega
      obtain ⟨p0, p1⟩ := B.out.gr hg2.out
      have S := Lib.hid (anyP_succ (badI n g) k)
      have ST := Lib.hid (fun h => cutB_stop (n := n) (g := g) hlt h)
      cases hb : btw 0 (g k) ((n : Int) - 1) with
      | false =>
        have HB := Lib.hid hb
        have E := Lib.hid (ST.out (by unfold badI; rw [hb]; rfl))
        have hb' := btw_false.1 hb
        clear hc hlt S ST hb
        generalize g k = x at *
        by_cases x0 : x < 0
        · clear hb'
          go_wp2_with fail
          go_ret
          rw [E.out]
          exact ⟨rfl, hg.out⟩
        · have x1 : (n : Int) ≤ x := by omega
          clear hb'
          go_wp2_with fail
          go_ret
          rw [E.out]
          exact ⟨rfl, hg.out⟩
      | true =>
        have HB := Lib.hid hb
        obtain ⟨x0, x1⟩ := btw_true.1 hb
        have x2 : ¬ g k < 0 := by omega
        have x3 : ¬ (n : Int) ≤ g k := by omega
        clear x0 x1
        rcases Nat.eq_zero_or_pos k with hk0 | hk0
        · have S' := Lib.hid (show anyP (badI n g) (k + 1) = false by rw [S.out, HI.out]; unfold badI; rw [hb, hk0]; rfl)
          have i2 : ¬ (0 : Int) < k := by omega
          clear hc hlt S ST hb hk0
          generalize g k = x at *
          go_wp2_with fail
          go_roundw
          case rel => exact ⟨k + 1, by omega, by go_num, S', hg2⟩
          case measure => simp [intOf]; omega
        · have i2 : (0 : Int) < k := by omega
          have c3 := hc (k - 1) (by omega)
          have i3 : IntKind.i64.wrap ((k : Int) - 1) = ((k - 1 : Nat) : Int) := by rw [IntWalk.i64_in _ (by omega)]; omega
          have i4 : ((k - 1 : Nat) : Int) < m := by omega
          by_cases hu : g k ≤ g (k - 1)
          · have E := Lib.hid (ST.out (by unfold badI; rw [hb, decide_eq_true hk0, decide_eq_true hu]; rfl))
            clear hc hlt S ST hb hk0
            generalize g k = x at *
            generalize g (k - 1) = y at *
            go_wp2_with fail
            go_ret
            rw [E.out]
            exact ⟨rfl, hg.out⟩
          · have S' := Lib.hid (show anyP (badI n g) (k + 1) = false by rw [S.out, HI.out]; unfold badI; rw [hb, decide_eq_true hk0, decide_eq_false hu]; rfl)
            clear hc hlt S ST hb hk0
            generalize g k = x at *
            generalize g (k - 1) = y at *
            go_wp2_with fail
            go_roundw
            case rel => exact ⟨k + 1, by omega, by go_num, S', hg2⟩
            case measure => simp [intOf]; omega
    · obtain rfl : k = m := by omega
      have E := Lib.hid (cutB_end HI.out)
      go_wp2_with fail
      go_ret
      rw [E.out]
      exact ⟨rfl, hg.out⟩

end Go.Proofs.YtohcnicadbpbbaaDoor
