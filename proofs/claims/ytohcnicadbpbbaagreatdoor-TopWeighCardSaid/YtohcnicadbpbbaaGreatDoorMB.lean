/- Contracts of chapter 7: valid odds with their sums. Contracts of chapter 7: which lists are cuts, of the program and of the reference; the error of odds and a cut. Contracts of chapter 7: the noise and the signal of a cut, of the program. Contracts of chapter 7: the noise and the signal of a cut, of the program and of the reference. Contracts of chapter 7: which outcome comes first. -/
import Derived.Test.YtohcnicadbpbbaaGreatDoorMA
import Derived.Deep.RegionHeld3
import Derived.Deep.DeepCutAuto
namespace Go.Proofs.YtohcnicadbpbbaaGreatDoor
open Go.RowKit Go.Firn

/-- A struct of four cells in a block of the call's own. -/
def Box4 (w : World) (b : Nat) (s t u v : Value) : Prop :=
  w.cell? ⟨b, 0, none⟩ = some s ∧ w.cell? ⟨b, 1, none⟩ = some t ∧ w.cell? ⟨b, 2, none⟩ = some u ∧ w.cell? ⟨b, 3, none⟩ = some v ∧
    w.frozen? ⟨b, 0, none⟩ = false ∧ w.frozen? ⟨b, 1, none⟩ = false ∧ w.frozen? ⟨b, 2, none⟩ = false ∧ w.frozen? ⟨b, 3, none⟩ = false
theorem Box4.gr {w w' : World} {b : Nat} {s t u v : Value} (h : Box4 w b s t u v) (g : Gr w w') : Box4 w' b s t u v := by
  obtain ⟨h0, h1, h2, h3, f0, f1, f2, f3⟩ := h
  have hb := World.block_lt_of_cell? w _ h0
  exact ⟨g.cell h0, g.cell h1, g.cell h2, g.cell h3, by rw [Below.frozen g hb]; exact f0, by rw [Below.frozen g (p := ⟨b, 1, none⟩) hb]; exact f1,
    by rw [Below.frozen g (p := ⟨b, 2, none⟩) hb]; exact f2, by rw [Below.frozen g (p := ⟨b, 3, none⟩) hb]; exact f3⟩
theorem Box4.new {w : World} {b e : Nat} {s t u v : Value} (hb : w.heap.size = b) : Box4 (w.alloc (.cells #[s, t, u, v] e)) b s t u v := by
  have g := Gr.refl (w.alloc (.cells #[s, t, u, v] e))
  obtain ⟨a0, c0⟩ := g.fresh' (j := 0) hb rfl
  obtain ⟨a1, c1⟩ := g.fresh' (j := 1) hb rfl
  obtain ⟨a2, c2⟩ := g.fresh' (j := 2) hb rfl
  obtain ⟨a3, c3⟩ := g.fresh' (j := 3) hb rfl
  exact ⟨a0, a1, a2, a3, c0, c1, c2, c3⟩
theorem cell_near {w : World} {b j : Nat} {v : Value} (h : w.cell? ⟨b, j, none⟩ = some v) (u : Value) : (w.setCell ⟨b, j, none⟩ u).cell? ⟨b, j, none⟩ = some u :=
  World.cell?_setCell_same _ _ _ h
theorem cell_by {w : World} {b j k : Nat} {v : Value} (h : w.cell? ⟨b, j, none⟩ = some v) (hk : k ≠ j) (u : Value) : (w.setCell ⟨b, k, none⟩ u).cell? ⟨b, j, none⟩ = some v := by
  rw [World.cell?_setCell_other _ _ _ _ (fun e => hk (congrArg Addr.off e))]; exact h
theorem Box4.put {w : World} {b : Nat} {s t u v : Value} (h : Box4 w b s t u v) (s' t' u' v' : Value) :
    Box4 ((((w.setCell ⟨b, 0, none⟩ s').setCell ⟨b, 1, none⟩ t').setCell ⟨b, 2, none⟩ u').setCell ⟨b, 3, none⟩ v') b s' t' u' v' := by
  obtain ⟨h0, h1, h2, h3, f0, f1, f2, f3⟩ := h
  have q1 := cell_by h1 (show 0 ≠ 1 by omega) s'
  have q2 := cell_by (cell_by h2 (show 0 ≠ 2 by omega) s') (show 1 ≠ 2 by omega) t'
  have q3 := cell_by (cell_by (cell_by h3 (show 0 ≠ 3 by omega) s') (show 1 ≠ 3 by omega) t') (show 2 ≠ 3 by omega) u'
  refine ⟨?_, ?_, ?_, cell_near q3 v', by simpa using f0, by simpa using f1, by simpa using f2, by simpa using f3⟩
  · exact cell_by (cell_by (cell_by (cell_near h0 s') (by omega) t') (by omega) u') (by omega) v'
  · exact cell_by (cell_by (cell_near q1 t') (by omega) u') (by omega) v'
  · exact cell_by (cell_near q2 u') (by omega) v'

/-- Odds with their sums, and an error. -/
def RetO (s t : Value) (x y err : Int) (w : World) (e : Ending) (w' : World) : Prop := e = .returned (.tuple #[.agg #[s, t, .int .i64 x, .int .i64 y], .int .i64 err]) ∧ Gr w w'

set_option maxHeartbeats 1000000 in
theorem newOdds_no (a a2 : Option Addr) (n c m d : Nat) (f g : Nat → Int) (w : World) (hn : n ≤ 1000) (hm : m ≤ 1000) (hr : RdI w a n f) (hs : RdI w a2 m g) (hv : vO n m f g = false) :
    Calls Tryz.prog 29 #[.agg #[.slice a n c, .slice a2 m d]] w (RetO (.slice none 0 0) (.slice none 0 0) 0 0 70 w) := by
  obtain ⟨W0, hW0⟩ : ∃ W0, (w.alloc (.cells #[.slice a n c, .slice a2 m d] 24)).alloc (.cells #[.slice none 0 0, .slice none 0 0, .int .i64 0, .int .i64 0] 57) = W0 := ⟨_, rfl⟩
  have G0 := Lib.hid (show Gr w W0 by rw [← hW0]; exact ((Gr.refl w).alloc _).alloc _)
  have B1 := Lib.hid (show BoxO W0 w.heap.size (.slice a n c) (.slice a2 m d) by rw [← hW0]; exact (BoxO.new rfl).gr ((Gr.refl _).alloc _))
  have B2 := Lib.hid (show Box4 W0 (w.heap.size + 1) (.slice none 0 0) (.slice none 0 0) (.int .i64 0) (.int .i64 0) by rw [← hW0]; exact Box4.new (by simp))
  have C := Lib.hid (fun w' (k : Gr w w') => Valid_any a a2 n c m d f g w' hn hm (hr.gr k) (hs.gr k))
  rw [hv] at C
  obtain ⟨p0, p1⟩ := B1.out
  clear hr hs hv
  go_enter Tryz.func29, Tryz.ntmps29
  go_wp2_with (go_at_call 27; (with_reducible refine (C.out _ G0.out).mono ?_); rintro e w1 ⟨rfl, g1⟩; have G1 := Lib.hid g1; obtain ⟨k0, k1, k2, k3, k4, k5, k6, k7⟩ := B2.out.gr g1; clear g1)
  obtain ⟨z0, z1, z2, z3, _⟩ := Box4.put (show Box4 w1 (w.heap.size + 1) (.slice none 0 0) (.slice none 0 0) (.int .i64 0) (.int .i64 0) from ⟨k0, k1, k2, k3, k4, k5, k6, k7⟩) (.slice none 0 0) (.slice none 0 0) (.int .i64 0) (.int .i64 0)
  refine bodyPost_ret (v := .tuple #[.agg #[.slice none 0 0, .slice none 0 0, .int .i64 0, .int .i64 0], .int .i64 70]) (by simp [results, Tryz.results29, go_sem, z0, z1, z2, z3]) rfl ⟨rfl, ?_⟩
  repeat (first | exact G0.out.trans G1.out | refine Gr.setCell ?_ (by simp; omega) _ | refine Gr.setCell ?_ (by simp) _ | refine Gr.alloc ?_ _ | refine Gr.drewN ?_ _ | refine Gr.drew ?_)

set_option maxHeartbeats 1000000 in
theorem newOdds_ok (a a2 : Option Addr) (n c m d : Nat) (f g : Nat → Int) (w : World) (hn : n ≤ 1000) (hm : m ≤ 1000) (hr : RdI w a n f) (hs : RdI w a2 m g) (hv : vO n m f g = true) :
    Calls Tryz.prog 29 #[.agg #[.slice a n c, .slice a2 m d]] w (RetO (.slice a n c) (.slice a2 m d) (sm f n) (sm g m) 0 w) := by
  obtain ⟨W0, hW0⟩ : ∃ W0, (w.alloc (.cells #[.slice a n c, .slice a2 m d] 24)).alloc (.cells #[.slice none 0 0, .slice none 0 0, .int .i64 0, .int .i64 0] 57) = W0 := ⟨_, rfl⟩
  have G0 := Lib.hid (show Gr w W0 by rw [← hW0]; exact ((Gr.refl w).alloc _).alloc _)
  have B1 := Lib.hid (show BoxO W0 w.heap.size (.slice a n c) (.slice a2 m d) by rw [← hW0]; exact (BoxO.new rfl).gr ((Gr.refl _).alloc _))
  have B2 := Lib.hid (show Box4 W0 (w.heap.size + 1) (.slice none 0 0) (.slice none 0 0) (.int .i64 0) (.int .i64 0) by rw [← hW0]; exact Box4.new (by simp))
  have C := Lib.hid (fun w' (k : Gr w w') => Valid_any a a2 n c m d f g w' hn hm (hr.gr k) (hs.gr k))
  have V := vO_iff.1 hv
  have C1 := Lib.hid (fun w' (k : Gr w w') => sum_any a n c f w' hn (hr.gr k) (fun i hi => by have := V.noise.ok i hi; omega))
  have C2 := Lib.hid (fun w' (k : Gr w w') => sum_any a2 m d g w' hm (hs.gr k) (fun i hi => by have := V.signal.ok i (by have := V.same; omega); omega))
  rw [hv] at C
  obtain ⟨p0, p1⟩ := B1.out
  clear hr hs hv V
  generalize sm f n = sf at *
  generalize sm g m = sg at *
  go_enter Tryz.func29, Tryz.ntmps29
  go_wp2_with (go_at_call 27; (with_reducible refine (C.out _ G0.out).mono ?_); rintro e w1 ⟨rfl, g1⟩; have G1 := Lib.hid (G0.out.trans g1); obtain ⟨k0, k1, k2, k3, k4, k5, k6, k7⟩ := B2.out.gr g1; obtain ⟨q0, q1⟩ := B1.out.gr g1; clear g1 p0 p1)
  go_region_held3 (fun w' => w'.cell? ⟨w.heap.size, 0, none⟩ = some (.slice a n c) ∧ w'.cell? ⟨w.heap.size, 1, none⟩ = some (.slice a2 m d))
    (first | exact ⟨q0, q1⟩ | go_keep)
    (first
      | (go_at_call 53; (with_reducible refine (C1.out _ (by first | exact G1.out.drew | exact G1.out)).mono ?_); rintro e w2 ⟨rfl, rfl⟩)
      | (go_at_call 53; (with_reducible refine (C2.out _ (by first | exact G1.out.drew | exact G1.out)).mono ?_); rintro e w2 ⟨rfl, rfl⟩))
  all_goals
    go_wp2
    obtain ⟨z0, z1, z2, z3, _⟩ := Box4.put (show Box4 w1 (w.heap.size + 1) (.slice none 0 0) (.slice none 0 0) (.int .i64 0) (.int .i64 0) from ⟨k0, k1, k2, k3, k4, k5, k6, k7⟩) (.slice a n c) (.slice a2 m d) (.int .i64 sf) (.int .i64 sg)
    refine bodyPost_ret (v := .tuple #[.agg #[.slice a n c, .slice a2 m d, .int .i64 sf, .int .i64 sg], .int .i64 0]) (by simp [results, Tryz.results29, go_sem, z0, z1, z2, z3]) rfl ⟨rfl, ?_⟩
    repeat (first | exact G1.out | refine Gr.setCell ?_ (by simp; omega) _ | refine Gr.setCell ?_ (by simp) _ | refine Gr.alloc ?_ _ | refine Gr.drewN ?_ _ | refine Gr.drew ?_)

end Go.Proofs.YtohcnicadbpbbaaGreatDoor

namespace Go.Proofs.YtohcnicadbpbbaaGreatDoor
open Go.RowKit Go.Firn

theorem many_any (a : Option Addr) (n c : Nat) (t u v : Value) (w : World) :
    Calls Tryz.prog 30 #[.agg #[.slice a n c, t, u, v]] w fun e w' => e = .returned (.int .i64 n) ∧ Gr w w' := by
  have G0 := Lib.hid ((Gr.refl w).alloc (.cells #[.slice a n c, t, u, v] 57))
  obtain ⟨p0, p1, p2, p3, _⟩ := Box4.new (w := w) (e := 57) (s := .slice a n c) (t := t) (u := u) (v := v) rfl
  go_enter Tryz.func30, Tryz.ntmps30
  go_wp2_with fail
  go_ret
  exact ⟨rfl, G0.out⟩

/-- An index where a list is no cut. -/
def badI (n : Nat) (g : Nat → Int) (i : Nat) : Bool := !btw 0 (g i) ((n : Int) - 1) || (decide (0 < i) && decide (g i ≤ g (i - 1)))
/-- Which lists are cuts. -/
def cutB (n m : Nat) (g : Nat → Int) : Bool := !(anyP (badI n g) m)
theorem cutB_end {n m : Nat} {g : Nat → Int} (h : anyP (badI n g) m = false) : cutB n m g = true := by unfold cutB; rw [h]; rfl
theorem cutB_stop {n m k : Nat} {g : Nat → Int} (hk : k < m) (h : badI n g k = true) : cutB n m g = false := by unfold cutB; rw [anyP_stop hk h]; rfl
structure Cut (n m : Nat) (g : Nat → Int) : Prop where
  ok : ∀ i, i < m → 0 ≤ g i ∧ g i < n
  up : ∀ i, i + 1 < m → g i < g (i + 1)
theorem cutB_iff {n m : Nat} {g : Nat → Int} : cutB n m g = true ↔ Cut n m g := by
  unfold cutB
  rw [Bool.not_eq_true', anyP_none]
  constructor
  · intro h
    refine ⟨fun i hi => ?_, fun i hi => ?_⟩
    · have := h i hi
      unfold badI at this
      rw [Bool.or_eq_false_iff, Bool.not_eq_false', btw_true] at this
      omega
    · have := h (i + 1) hi
      unfold badI at this
      rw [Bool.or_eq_false_iff, decide_eq_true (Nat.succ_pos i), Bool.true_and, decide_eq_false_iff_not] at this
      have e : i + 1 - 1 = i := by omega
      rw [e] at this
      omega
  · intro h i hi
    unfold badI
    have a := h.ok i hi
    rw [btw_true.2 ⟨a.1, by omega⟩, Bool.not_true, Bool.false_or]
    cases i with
    | zero => rfl
    | succ j =>
      have := h.up j hi
      rw [show j + 1 - 1 = j by omega, decide_eq_false (show ¬ g (j + 1) ≤ g j by omega), Bool.and_false]
theorem Cut.far {n m : Nat} {g : Nat → Int} (h : Cut n m g) : ∀ {i : Nat}, i < m → (i : Int) ≤ g i
  | 0, hi => by have := h.ok 0 hi; omega
  | i + 1, hi => by
    have a := h.far (i := i) (by omega)
    have b := h.up i hi
    omega
theorem Cut.few {n m : Nat} {g : Nat → Int} (h : Cut n m g) : m ≤ n := by
  cases m with
  | zero => omega
  | succ k =>
    have a := h.far (i := k) (by omega)
    have b := h.ok k (by omega)
    omega

set_option maxHeartbeats 2000000 in
theorem isCut_any (a a2 : Option Addr) (n c m c2 : Nat) (t u v : Value) (g : Nat → Int) (w : World) (hn : n ≤ 1000) (hm : m ≤ 1000) (hr : RdI w a2 m g) :
    Calls Tryz.prog 64 #[.agg #[.slice a n c, t, u, v], .slice a2 m c2] w (RetB (cutB n m g) w) := by
  obtain ⟨W0, hW0⟩ : ∃ W0, w.alloc (.cells #[.slice a n c, t, u, v] 57) = W0 := ⟨_, rfl⟩
  have G0 := Lib.hid (show Gr w W0 by rw [← hW0]; exact (Gr.refl w).alloc _)
  have B := Lib.hid (show Box4 W0 w.heap.size (.slice a n c) t u v by rw [← hW0]; exact Box4.new rfl)
  have HR := Lib.hid hr
  have C54 := Lib.hid (fun wz => many_any a n c t u v wz)
  clear hr
  go_enter Tryz.func64, Tryz.ntmps64
  go_wp2_with fail
  go_loopw [9] (fun i wr => ∃ k : Nat, k ≤ m ∧ i = .int .i64 k ∧ Hid (anyP (badI n g) k = false) ∧ Hid (Gr W0 wr)) (fun i _ => m - (intOf i).toNat)
  case atStart => exact ⟨0, Nat.zero_le _, rfl, Lib.hid rfl, Lib.hid (Gr.refl _)⟩
  case round =>
    obtain ⟨k, hk, rfl, HI, hg2⟩ := hrel
    have hg := Lib.hid (G0.out.trans hg2.out)
    by_cases hlt : k < m
    · obtain ⟨b, o, rfl, hc⟩ := (HR.out.gr hg.out).at hlt
      have c1 := hc k hlt
      have i1 : (k : Int) < m := by omega
      obtain ⟨p0, p1, p2, p3, _⟩ := B.out.gr hg2.out
      have S := Lib.hid (anyP_succ (badI n g) k)
      have ST := Lib.hid (fun h => cutB_stop (n := n) (g := g) hlt h)
      have qn : IntKind.i64.wrap ((n : Int) - 1) = (n : Int) - 1 := IntWalk.i64_in _ (by omega)
      cases hb : btw 0 (g k) ((n : Int) - 1) with
      | false =>
        have HB := Lib.hid hb
        have E := Lib.hid (ST.out (by unfold badI; rw [hb]; rfl))
        have B60 := Lib.hid (fun wz => show Calls Tryz.prog 32 #[.int .i64 0, .int .i64 (g k), .int .i64 ((n : Int) - 1)] wz fun e w' => e = .returned (.bool false) ∧ wz = w' from by rw [← HB.out]; exact between_any 0 (g k) ((n : Int) - 1) wz)
        have hb' := btw_false.1 hb
        clear hc hlt S ST hb
        generalize g k = x at *
        clear hb'
        go_wp2_with (first
            | (go_at_call 30; (with_reducible refine (C54.out _).mono ?_); rintro e w1 ⟨rfl, g1⟩; have G1 := Lib.hid g1; clear g1)
            | (go_at_call 32; (with_reducible refine (B60.out _).mono ?_); rintro e w2 ⟨rfl, rfl⟩))
        go_ret
        rw [E.out]
        exact ⟨rfl, hg.out.trans G1.out⟩
      | true =>
        have HB := Lib.hid hb
        have B60 := Lib.hid (fun wz => show Calls Tryz.prog 32 #[.int .i64 0, .int .i64 (g k), .int .i64 ((n : Int) - 1)] wz fun e w' => e = .returned (.bool true) ∧ wz = w' from by rw [← HB.out]; exact between_any 0 (g k) ((n : Int) - 1) wz)
        obtain ⟨x0, x1⟩ := btw_true.1 hb
        clear x0 x1
        rcases Nat.eq_zero_or_pos k with hk0 | hk0
        · have S' := Lib.hid (show anyP (badI n g) (k + 1) = false by rw [S.out, HI.out]; unfold badI; rw [hb, hk0]; rfl)
          have i2 : ¬ (0 : Int) < k := by omega
          clear hc hlt S ST hb hk0
          generalize g k = x at *
          go_wp2_with (first
            | (go_at_call 30; (with_reducible refine (C54.out _).mono ?_); rintro e w1 ⟨rfl, g1⟩; have G1 := Lib.hid g1; clear g1)
            | (go_at_call 32; (with_reducible refine (B60.out _).mono ?_); rintro e w2 ⟨rfl, rfl⟩))
          go_roundw
          case rel => exact ⟨k + 1, by omega, by go_num, S', (Lib.hid (hg2.out.trans G1.out))⟩
          case measure => simp [intOf]; omega
        · have i2 : (0 : Int) < k := by omega
          have c3 := hc (k - 1) (by omega)
          have i3 : IntKind.i64.wrap ((k : Int) - 1) = ((k - 1 : Nat) : Int) := by rw [IntWalk.i64_in _ (by omega)]; omega
          have i4 : ((k - 1 : Nat) : Int) < m := by omega
          by_cases hu : g k ≤ g (k - 1)
          · have E := Lib.hid (ST.out (by unfold badI; rw [hb, decide_eq_true hk0, decide_eq_true hu]; rfl))
            clear hc hlt S ST hb hk0
            generalize g k = x at *
            generalize g (k - 1) = y at *
            go_wp2_with (first
            | (go_at_call 30; (with_reducible refine (C54.out _).mono ?_); rintro e w1 ⟨rfl, g1⟩; have G1 := Lib.hid g1; have c4 := g1.cell c3; clear c3; clear g1)
            | (go_at_call 32; (with_reducible refine (B60.out _).mono ?_); rintro e w2 ⟨rfl, rfl⟩))
            go_ret
            rw [E.out]
            exact ⟨rfl, hg.out.trans G1.out⟩
          · have S' := Lib.hid (show anyP (badI n g) (k + 1) = false by rw [S.out, HI.out]; unfold badI; rw [hb, decide_eq_true hk0, decide_eq_false hu]; rfl)
            clear hc hlt S ST hb hk0
            generalize g k = x at *
            generalize g (k - 1) = y at *
            go_wp2_with (first
            | (go_at_call 30; (with_reducible refine (C54.out _).mono ?_); rintro e w1 ⟨rfl, g1⟩; have G1 := Lib.hid g1; have c4 := g1.cell c3; clear c3; clear g1)
            | (go_at_call 32; (with_reducible refine (B60.out _).mono ?_); rintro e w2 ⟨rfl, rfl⟩))
            go_roundw
            case rel => exact ⟨k + 1, by omega, by go_num, S', (Lib.hid (hg2.out.trans G1.out))⟩
            case measure => simp [intOf]; omega
    · obtain rfl : k = m := by omega
      have E := Lib.hid (cutB_end HI.out)
      go_wp2_with fail
      go_ret
      rw [E.out]
      exact ⟨rfl, hg.out⟩

set_option maxHeartbeats 2000000 in
theorem refIsCut_any (a a2 : Option Addr) (n c m c2 : Nat) (t : Value) (g : Nat → Int) (w : World) (hm : m ≤ 1000) (hr : RdI w a2 m g) :
    Calls Tryz.prog 18 #[.agg #[.slice a n c, t], .slice a2 m c2] w (RetB (cutB n m g) w) := by
  obtain ⟨W0, hW0⟩ : ∃ W0, w.alloc (.cells #[.slice a n c, t] 24) = W0 := ⟨_, rfl⟩
  have G0 := Lib.hid (show Gr w W0 by rw [← hW0]; exact (Gr.refl w).alloc _)
  have B := Lib.hid (show BoxO W0 w.heap.size (.slice a n c) t by rw [← hW0]; exact BoxO.new rfl)
  have HR := Lib.hid hr
  clear hr
  go_enter Tryz.func18, Tryz.ntmps18
  go_wp2_with fail
  go_loopw [9] (fun i wr => ∃ k : Nat, k ≤ m ∧ i = .int .i64 k ∧ Hid (anyP (badI n g) k = false) ∧ Hid (Gr W0 wr)) (fun i _ => m - (intOf i).toNat)
  case atStart => exact ⟨0, Nat.zero_le _, rfl, Lib.hid rfl, Lib.hid (Gr.refl _)⟩
  case round =>
    obtain ⟨k, hk, rfl, HI, hg2⟩ := hrel
    have hg := Lib.hid (G0.out.trans hg2.out)
    by_cases hlt : k < m
    · obtain ⟨b, o, rfl, hc⟩ := (HR.out.gr hg.out).at hlt
      have c1 := hc k hlt
      have i1 : (k : Int) < m := by omega
      obtain ⟨p0, p1⟩ := B.out.gr hg2.out
      have S := Lib.hid (anyP_succ (badI n g) k)
      have ST := Lib.hid (fun h => cutB_stop (n := n) (g := g) hlt h)
      cases hb : btw 0 (g k) ((n : Int) - 1) with
      | false =>
        have HB := Lib.hid hb
        have E := Lib.hid (ST.out (by unfold badI; rw [hb]; rfl))
        have hb' := btw_false.1 hb
        clear hc hlt S ST hb
        generalize g k = x at *
        by_cases x0 : x < 0
        · clear hb'
          go_wp2_with fail
          go_ret
          rw [E.out]
          exact ⟨rfl, hg.out⟩
        · have x1 : (n : Int) ≤ x := by omega
          clear hb'
          go_wp2_with fail
          go_ret
          rw [E.out]
          exact ⟨rfl, hg.out⟩
      | true =>
        have HB := Lib.hid hb
        obtain ⟨x0, x1⟩ := btw_true.1 hb
        have x2 : ¬ g k < 0 := by omega
        have x3 : ¬ (n : Int) ≤ g k := by omega
        clear x0 x1
        rcases Nat.eq_zero_or_pos k with hk0 | hk0
        · have S' := Lib.hid (show anyP (badI n g) (k + 1) = false by rw [S.out, HI.out]; unfold badI; rw [hb, hk0]; rfl)
          have i2 : ¬ (0 : Int) < k := by omega
          clear hc hlt S ST hb hk0
          generalize g k = x at *
          go_wp2_with fail
          go_roundw
          case rel => exact ⟨k + 1, by omega, by go_num, S', hg2⟩
          case measure => simp [intOf]; omega
        · have i2 : (0 : Int) < k := by omega
          have c3 := hc (k - 1) (by omega)
          have i3 : IntKind.i64.wrap ((k : Int) - 1) = ((k - 1 : Nat) : Int) := by rw [IntWalk.i64_in _ (by omega)]; omega
          have i4 : ((k - 1 : Nat) : Int) < m := by omega
          by_cases hu : g k ≤ g (k - 1)
          · have E := Lib.hid (ST.out (by unfold badI; rw [hb, decide_eq_true hk0, decide_eq_true hu]; rfl))
            clear hc hlt S ST hb hk0
            generalize g k = x at *
            generalize g (k - 1) = y at *
            go_wp2_with fail
            go_ret
            rw [E.out]
            exact ⟨rfl, hg.out⟩
          · have S' := Lib.hid (show anyP (badI n g) (k + 1) = false by rw [S.out, HI.out]; unfold badI; rw [hb, decide_eq_true hk0, decide_eq_false hu]; rfl)
            clear hc hlt S ST hb hk0
            generalize g k = x at *
            generalize g (k - 1) = y at *
            go_wp2_with fail
            go_roundw
            case rel => exact ⟨k + 1, by omega, by go_num, S', hg2⟩
            case measure => simp [intOf]; omega
    · obtain rfl : k = m := by omega
      have E := Lib.hid (cutB_end HI.out)
      go_wp2_with fail
      go_ret
      rw [E.out]
      exact ⟨rfl, hg.out⟩

end Go.Proofs.YtohcnicadbpbbaaGreatDoor

namespace Go.Proofs.YtohcnicadbpbbaaGreatDoor
open Go.RowKit Go.Firn

set_option maxHeartbeats 1000000 in
theorem Noise1_any (a a2 : Option Addr) (n c m c2 bs : Nat) (t : Value) (f g : Nat → Int) (x y : Int) (w : World) (hm : m ≤ 1000) (hr : RdI w a n f) (hs : RdI w a2 m g)
    (hf : ∀ i, i < n → 0 ≤ f i ∧ f i ≤ 1000) (hg : ∀ i, i < m → 0 ≤ g i ∧ g i < n) (hx : 0 < x ∧ x ≤ 1000000) (hb : w.cell? ⟨bs, 0, none⟩ = some (.slice a2 m c2)) :
    Calls Tryz.prog 61 #[.agg #[.slice a n c, t, .int .i64 x, .int .i64 y], .pointer (some ⟨bs, 0, none⟩)] w (RetR (rN (kp f g m) x) (rD (kp f g m) x) w) := by
  obtain ⟨W0, hW0⟩ : ∃ W0, (w.alloc (.cells #[.slice a n c, t, .int .i64 x, .int .i64 y] 57)).alloc (.cells #[.int .i64 0, .int .i64 0] 28) = W0 := ⟨_, rfl⟩
  have G0 := Lib.hid (show Gr w W0 by rw [← hW0]; exact ((Gr.refl w).alloc _).alloc _)
  have B := Lib.hid (show Box4 W0 w.heap.size (.slice a n c) t (.int .i64 x) (.int .i64 y) by rw [← hW0]; exact (Box4.new rfl).gr ((Gr.refl _).alloc _))
  have B2 := Lib.hid (show Box2 W0 (w.heap.size + 1) 0 0 by rw [← hW0]; exact Box2.new (by simp))
  have K := kp_bd (f := f) (g := g) (B := 1000) (n := n) (k := m) hf hg
  have C1 := Lib.hid (fun w' (k : Gr w w') => kept_any a a2 n c m c2 f g w' hm (hr.gr k) (hs.gr k) (fun i hi => by have := hf i hi; omega) hg)
  have C2 := Lib.hid (fun w' => ratio_any (kp f g m) x w' ⟨by omega, by omega⟩ ⟨by omega, by omega⟩ hx.1)
  have p4 := G0.out.cell hb
  have lb : bs < w.heap.size := World.block_lt_of_cell? w _ hb
  have ne1 : ¬ (w.heap.size + 1 = bs) := by omega
  have ne2 : ¬ (bs = w.heap.size + 1) := by omega
  obtain ⟨p0, p1, p2, p3, _⟩ := B.out
  obtain ⟨k0, k1, k2, k3⟩ := B2.out
  generalize kp f g m = z at *
  clear hr hs hf hg hb hx K hm
  go_enter Tryz.func61, Tryz.ntmps61
  go_wp2_with fail
  go_region_held3 (fun w' => w'.cell? ⟨w.heap.size, 0, none⟩ = some (.slice a n c) ∧ w'.cell? ⟨w.heap.size, 2, none⟩ = some (.int .i64 x) ∧ w'.cell? ⟨bs, 0, none⟩ = some (.slice a2 m c2))
    (first | exact ⟨p0, p2, p4⟩ | exact ⟨g3.cell p0, g3.cell p2, g3.cell p4⟩ | go_keep)
    (first
      | (go_at_call 41; (with_reducible refine (C1.out _ (by first | exact G0.out | exact G0.out.drew)).mono ?_); rintro e w2 ⟨rfl, rfl⟩)
      | (go_at_call 36; (with_reducible refine (C2.out _).mono ?_); rintro e w3 ⟨rfl, g3⟩; obtain ⟨k0, k1, k2, k3⟩ := (show Box2 w3 (w.heap.size + 1) 0 0 from by first | exact B2.out.gr g3 | exact B2.out.drew.gr g3); have G3 := Lib.hid (show Gr w w3 from by first | exact G0.out.trans g3 | exact G0.out.drew.trans g3)))
  obtain ⟨z0, z1, _⟩ := (show Box2 w3 (w.heap.size + 1) 0 0 from ⟨k0, k1, k2, k3⟩).put (x' := rN z x) (y' := rD z x)
  go_wp2_with fail
  refine bodyPost_ret (v := .agg #[.int .i64 (rN z x), .int .i64 (rD z x)]) (by simp [results, Tryz.results61, go_sem, z0, z1]) rfl ⟨rfl, ?_⟩
  repeat (first | exact G3.out | refine Gr.setCell ?_ (by simp; omega) _ | refine Gr.setCell ?_ (by simp) _ | refine Gr.alloc ?_ _ | refine Gr.drewN ?_ _ | refine Gr.drew ?_)

theorem cf37 (args : Array Value) (wz : World) : (callFunc 61 args).run Tryz.prog wz = .ok (.enter 61 args) wz := by kernel_rfl

set_option maxHeartbeats 1000000 in
theorem Signal1_any (a a2 : Option Addr) (n c m c2 bs : Nat) (t : Value) (f g : Nat → Int) (x y : Int) (w : World) (hm : m ≤ 1000) (hr : RdI w a n f) (hs : RdI w a2 m g)
    (hf : ∀ i, i < n → 0 ≤ f i ∧ f i ≤ 1000) (hg : ∀ i, i < m → 0 ≤ g i ∧ g i < n) (hx : 0 < x ∧ x ≤ 1000000) (hb : w.cell? ⟨bs, 0, none⟩ = some (.slice a2 m c2)) :
    Calls Tryz.prog 62 #[.agg #[t, .slice a n c, .int .i64 y, .int .i64 x], .pointer (some ⟨bs, 0, none⟩)] w (RetR (rN (kp f g m) x) (rD (kp f g m) x) w) := by
  obtain ⟨W0, hW0⟩ : ∃ W0, (w.alloc (.cells #[t, .slice a n c, .int .i64 y, .int .i64 x] 57)).alloc (.cells #[.int .i64 0, .int .i64 0] 28) = W0 := ⟨_, rfl⟩
  have G0 := Lib.hid (show Gr w W0 by rw [← hW0]; exact ((Gr.refl w).alloc _).alloc _)
  have B := Lib.hid (show Box4 W0 w.heap.size t (.slice a n c) (.int .i64 y) (.int .i64 x) by rw [← hW0]; exact (Box4.new rfl).gr ((Gr.refl _).alloc _))
  have B2 := Lib.hid (show Box2 W0 (w.heap.size + 1) 0 0 by rw [← hW0]; exact Box2.new (by simp))
  have K := kp_bd (f := f) (g := g) (B := 1000) (n := n) (k := m) hf hg
  have C1 := Lib.hid (fun w' (k : Gr w w') => kept_any a a2 n c m c2 f g w' hm (hr.gr k) (hs.gr k) (fun i hi => by have := hf i hi; omega) hg)
  have C2 := Lib.hid (fun w' => ratio_any (kp f g m) x w' ⟨by omega, by omega⟩ ⟨by omega, by omega⟩ hx.1)
  have p4 := G0.out.cell hb
  have lb : bs < w.heap.size := World.block_lt_of_cell? w _ hb
  have ne1 : ¬ (w.heap.size + 1 = bs) := by omega
  have ne2 : ¬ (bs = w.heap.size + 1) := by omega
  obtain ⟨p0, p1, p2, p3, _⟩ := B.out
  obtain ⟨k0, k1, k2, k3⟩ := B2.out
  generalize kp f g m = z at *
  clear hr hs hf hg hb hx K hm
  go_enter Tryz.func62, Tryz.ntmps62
  go_wp2_with fail
  go_region_held3 (fun w' => w'.cell? ⟨w.heap.size, 1, none⟩ = some (.slice a n c) ∧ w'.cell? ⟨w.heap.size, 3, none⟩ = some (.int .i64 x) ∧ w'.cell? ⟨bs, 0, none⟩ = some (.slice a2 m c2))
    (first | exact ⟨p1, p3, p4⟩ | exact ⟨g3.cell p1, g3.cell p3, g3.cell p4⟩ | go_keep)
    (first
      | (go_at_call 41; (with_reducible refine (C1.out _ (by first | exact G0.out | exact G0.out.drew)).mono ?_); rintro e w2 ⟨rfl, rfl⟩)
      | (go_at_call 36; (with_reducible refine (C2.out _).mono ?_); rintro e w3 ⟨rfl, g3⟩; obtain ⟨k0, k1, k2, k3⟩ := (show Box2 w3 (w.heap.size + 1) 0 0 from by first | exact B2.out.gr g3 | exact B2.out.drew.gr g3); have G3 := Lib.hid (show Gr w w3 from by first | exact G0.out.trans g3 | exact G0.out.drew.trans g3)))
  obtain ⟨z0, z1, _⟩ := (show Box2 w3 (w.heap.size + 1) 0 0 from ⟨k0, k1, k2, k3⟩).put (x' := rN z x) (y' := rD z x)
  go_wp2_with fail
  refine bodyPost_ret (v := .agg #[.int .i64 (rN z x), .int .i64 (rD z x)]) (by simp [results, Tryz.results62, go_sem, z0, z1]) rfl ⟨rfl, ?_⟩
  repeat (first | exact G3.out | refine Gr.setCell ?_ (by simp; omega) _ | refine Gr.setCell ?_ (by simp) _ | refine Gr.alloc ?_ _ | refine Gr.drewN ?_ _ | refine Gr.drew ?_)

theorem cf44 (args : Array Value) (wz : World) : (callFunc 62 args).run Tryz.prog wz = .ok (.enter 62 args) wz := by kernel_rfl

/-- The error of odds and a cut. -/
def askE (n m : Nat) (f g : Nat → Int) (q : Nat) (h : Nat → Int) : Int := if vO n m f g then (if cutB n q h then 0 else 2) else 70
def okN (E x : Int) : Int := if E = 0 then x else 0
theorem askE_no {n m : Nat} {f g : Nat → Int} {q : Nat} {h : Nat → Int} (hv : vO n m f g = false) : askE n m f g q h = 70 := by unfold askE; rw [hv]; rfl
theorem askE_bad {n m : Nat} {f g : Nat → Int} {q : Nat} {h : Nat → Int} (hv : vO n m f g = true) (hc : cutB n q h = false) : askE n m f g q h = 2 := by unfold askE; rw [hv, hc]; rfl
theorem askE_ok {n m : Nat} {f g : Nat → Int} {q : Nat} {h : Nat → Int} (hv : vO n m f g = true) (hc : cutB n q h = true) : askE n m f g q h = 0 := by unfold askE; rw [hv, hc]; rfl

set_option maxHeartbeats 2000000 in
theorem asked_any (F : Nat) (u : Value) (hcf : ∀ (args : Array Value) (wz : World), (callFunc F args).run Tryz.prog wz = .ok (.enter F args) wz)
    (a a2 a3 : Option Addr) (n c m d q c3 : Nat) (f g h : Nat → Int) (P Q : Int) (w : World) (hn : n ≤ 1000) (hm : m ≤ 1000) (hq : q ≤ 1000) (hr : RdI w a n f) (hs : RdI w a2 m g) (ht : RdI w a3 q h)
    (H : vO n m f g = true → cutB n q h = true → ∀ wz, Gr w wz → Calls Tryz.prog F #[.agg #[.slice a n c, .slice a2 m d, .int .i64 (sm f n), .int .i64 (sm g m)], u] wz (RetR P Q wz)) :
    Calls Tryz.prog 60 #[.agg #[.slice a n c, .slice a2 m d], .slice a3 q c3, .func (.func F) #[] #[u]] w
      (RetRE (okN (askE n m f g q h) P) (okN (askE n m f g q h) Q) (askE n m f g q h) w) := by
  obtain ⟨W0, hW0⟩ : ∃ W0, (w.alloc (.cells #[.slice a n c, .slice a2 m d] 24)).alloc (.cells #[.int .i64 0, .int .i64 0] 28) = W0 := ⟨_, rfl⟩
  have G0 := Lib.hid (show Gr w W0 by rw [← hW0]; exact ((Gr.refl w).alloc _).alloc _)
  have B1 := Lib.hid (show BoxO W0 w.heap.size (.slice a n c) (.slice a2 m d) by rw [← hW0]; exact (BoxO.new rfl).gr ((Gr.refl _).alloc _))
  have B2 := Lib.hid (show Box2 W0 (w.heap.size + 1) 0 0 by rw [← hW0]; exact Box2.new (by simp))
  obtain ⟨p0, p1⟩ := B1.out
  cases hv : vO n m f g with
  | false =>
    have E := Lib.hid (askE_no (q := q) (h := h) hv)
    have C := Lib.hid (fun w' (k : Gr w w') => newOdds_no a a2 n c m d f g w' hn hm (hr.gr k) (hs.gr k) hv)
    rw [E.out]
    clear hr hs ht hv H
    go_enter Tryz.func60, Tryz.ntmps60
    go_wp2_with (go_at_call 29; (with_reducible refine (C.out _ G0.out).mono ?_); rintro e w1 ⟨rfl, g1⟩; have g1' := g1.alloc (.cells #[.slice none 0 0, .slice none 0 0, .int .i64 0, .int .i64 0] 57); have G1 := Lib.hid (G0.out.trans g1'); have N1 := Lib.hid (World.block_lt_of_cell? w1 _ (B2.out.gr g1).1); obtain ⟨k0, k1, k2, k3⟩ := B2.out.gr g1'; clear g1 g1')
    obtain ⟨z0, z1, _⟩ := (show Box2 (w1.alloc (.cells #[.slice none 0 0, .slice none 0 0, .int .i64 0, .int .i64 0] 57)) (w.heap.size + 1) 0 0 from ⟨k0, k1, k2, k3⟩).put (x' := 0) (y' := 0)
    refine bodyPost_ret (v := .tuple #[.agg #[.int .i64 0, .int .i64 0], .int .i64 70]) (by simp [results, Tryz.results60, go_sem, z0, z1]) rfl ⟨rfl, ?_⟩
    repeat (first | exact G1.out | refine Gr.setCell ?_ (by simp; omega) _ | refine Gr.setCell ?_ (by simp) _ | refine Gr.alloc ?_ _ | refine Gr.drewN ?_ _ | refine Gr.drew ?_)
  | true =>
    have C := Lib.hid (fun w' (k : Gr w w') => newOdds_ok a a2 n c m d f g w' hn hm (hr.gr k) (hs.gr k) hv)
    have HT := Lib.hid ht
    have C1 := Lib.hid (fun w' (k : Gr w w') => isCut_any a a3 n c q c3 (.slice a2 m d) (.int .i64 (sm f n)) (.int .i64 (sm g m)) h w' hn hq (ht.gr k))
    cases hc : cutB n q h with
    | false =>
      have E := Lib.hid (askE_bad hv hc)
      rw [E.out]
      rw [hc] at C1
      clear hr hs ht hv H hc
      generalize sm f n = sf at *
      generalize sm g m = sg at *
      go_enter Tryz.func60, Tryz.ntmps60
      go_wp2_with (first
        | (go_at_call 29; (with_reducible refine (C.out _ G0.out).mono ?_); rintro e w1 ⟨rfl, g1⟩; have g1' := g1.alloc (.cells #[.slice a n c, .slice a2 m d, .int .i64 sf, .int .i64 sg] 57); have G1 := Lib.hid (G0.out.trans g1'); have g2' := g1.alloc (.cells #[.slice none 0 0, .slice none 0 0, .int .i64 0, .int .i64 0] 57); have B3 := Lib.hid (show Box4 (w1.alloc (.cells #[.slice a n c, .slice a2 m d, .int .i64 sf, .int .i64 sg] 57)) w1.heap.size (.slice a n c) (.slice a2 m d) (.int .i64 sf) (.int .i64 sg) from Box4.new rfl); have B2 := Lib.hid (B2.out.gr g1'); obtain ⟨r0, r1, r2, r3, _⟩ := B3.out; clear g1 g1' g2')
        | (go_at_call 64; (with_reducible refine (C1.out _ G1.out).mono ?_); rintro e w2 ⟨rfl, g2⟩; have G2 := Lib.hid (G1.out.trans g2); have B2 := Lib.hid (B2.out.gr g2); obtain ⟨k0, k1, k2, k3⟩ := B2.out; clear g2))
      obtain ⟨z0, z1, _⟩ := (show Box2 w2 (w.heap.size + 1) 0 0 from ⟨k0, k1, k2, k3⟩).put (x' := 0) (y' := 0)
      refine bodyPost_ret (v := .tuple #[.agg #[.int .i64 0, .int .i64 0], .int .i64 2]) (by simp [results, Tryz.results60, go_sem, z0, z1]) rfl ⟨rfl, ?_⟩
      repeat (first | exact G2.out | refine Gr.setCell ?_ (by simp; omega) _ | refine Gr.setCell ?_ (by simp) _ | refine Gr.alloc ?_ _ | refine Gr.drewN ?_ _ | refine Gr.drew ?_)
    | true =>
      have E := Lib.hid (askE_ok hv hc)
      have CF := Lib.hid (fun w' (k : Gr w w') => H hv hc w' k)
      have e1 : okN 0 P = P := rfl
      have e2 : okN 0 Q = Q := rfl
      rw [E.out, e1, e2]
      rw [hc] at C1
      clear hr hs ht hv H hc e1 e2
      generalize sm f n = sf at *
      generalize sm g m = sg at *
      go_enter Tryz.func60, Tryz.ntmps60
      go_wp2_with (first
        | (go_at_call 29; (with_reducible refine (C.out _ G0.out).mono ?_); rintro e w1 ⟨rfl, g1⟩; have g1' := g1.alloc (.cells #[.slice a n c, .slice a2 m d, .int .i64 sf, .int .i64 sg] 57); have G1 := Lib.hid (G0.out.trans g1'); have B3 := Lib.hid (show Box4 (w1.alloc (.cells #[.slice a n c, .slice a2 m d, .int .i64 sf, .int .i64 sg] 57)) w1.heap.size (.slice a n c) (.slice a2 m d) (.int .i64 sf) (.int .i64 sg) from Box4.new rfl); have B2 := Lib.hid (B2.out.gr g1'); obtain ⟨r0, r1, r2, r3, _⟩ := B3.out; clear g1 g1')
        | (go_at_call 64; (with_reducible refine (C1.out _ G1.out).mono ?_); rintro e w2 ⟨rfl, g2⟩; have G2 := Lib.hid (G1.out.trans g2); have B2 := Lib.hid (B2.out.gr g2); obtain ⟨r0, r1, r2, r3, _⟩ := B3.out.gr g2; clear g2))
      refine (CF.out _ G2.out).mono ?_
      rintro e w3 ⟨rfl, g3⟩
      have G3 := Lib.hid (G2.out.trans g3)
      obtain ⟨k0, k1, k2, k3⟩ := B2.out.gr g3
      clear g3
      go_wp2_with fail
      obtain ⟨z0, z1, _⟩ := (show Box2 w3 (w.heap.size + 1) 0 0 from ⟨k0, k1, k2, k3⟩).put (x' := P) (y' := Q)
      refine bodyPost_ret (v := .tuple #[.agg #[.int .i64 P, .int .i64 Q], .int .i64 0]) (by simp [results, Tryz.results60, go_sem, z0, z1]) rfl ⟨rfl, ?_⟩
      repeat (first | exact G3.out | refine Gr.setCell ?_ (by simp; omega) _ | refine Gr.setCell ?_ (by simp) _ | refine Gr.alloc ?_ _ | refine Gr.drewN ?_ _ | refine Gr.drew ?_)

end Go.Proofs.YtohcnicadbpbbaaGreatDoor

namespace Go.Proofs.YtohcnicadbpbbaaGreatDoor
open Go.RowKit Go.Firn

theorem VW.sum {n : Nat} {f : Nat → Int} (h : VW n f) : 0 < sm f n ∧ sm f n ≤ 1000000 := by
  have a := (sm_bd (f := f) (B := 1000) (k := n) h.ok).2
  have b := h.few
  exact ⟨h.pos, by omega⟩
theorem VO.sig {n m : Nat} {f g : Nat → Int} (h : VO n m f g) : VW m g := h.same ▸ h.signal

set_option maxHeartbeats 1000000 in
theorem Noise_any (a a2 a3 : Option Addr) (n c m d q c3 : Nat) (f g h : Nat → Int) (w : World) (hn : n ≤ 1000) (hm : m ≤ 1000) (hq : q ≤ 1000) (hr : RdI w a n f) (hs : RdI w a2 m g) (ht : RdI w a3 q h) :
    Calls Tryz.prog 37 #[.agg #[.slice a n c, .slice a2 m d], .slice a3 q c3] w
      (RetRE (okN (askE n m f g q h) (rN (kp f h q) (sm f n))) (okN (askE n m f g q h) (rD (kp f h q) (sm f n))) (askE n m f g q h) w) := by
  obtain ⟨W0, hW0⟩ : ∃ W0, ((w.alloc (.cells #[.slice a n c, .slice a2 m d] 24)).alloc (.cells #[.slice a3 q c3] 22)).alloc (.cells #[.int .i64 0, .int .i64 0] 28) = W0 := ⟨_, rfl⟩
  have G0 := Lib.hid (show Gr w W0 by rw [← hW0]; exact (((Gr.refl w).alloc _).alloc _).alloc _)
  have B1 := Lib.hid (show BoxO W0 w.heap.size (.slice a n c) (.slice a2 m d) by rw [← hW0]; exact (BoxO.new rfl).gr (((Gr.refl _).alloc _).alloc _))
  have B3 := Lib.hid (show W0.cell? ⟨w.heap.size + 1, 0, none⟩ = some (.slice a3 q c3) by rw [← hW0]; exact ((Gr.refl _).alloc _).cell (((Gr.refl ((w.alloc (.cells #[.slice a n c, .slice a2 m d] 24)).alloc (.cells #[.slice a3 q c3] 22))).fresh' (b := w.heap.size + 1) (j := 0) (v := .slice a3 q c3) (by simp) rfl).1))
  have B2 := Lib.hid (show Box2 W0 (w.heap.size + 1 + 1) 0 0 by rw [← hW0]; exact Box2.new (by simp))
  have hmf : ∀ (fn : Fn) (first cap : Array Value) (w : World), (Instr.makeFunc fn first cap).run Tryz.prog w = .ok (.func fn first cap) w := fun _ _ _ _ => rfl
  have CA := Lib.hid (asked_any 61 (.pointer (some ⟨w.heap.size + 1, 0, none⟩)) cf37 a a2 a3 n c m d q c3 f g h (rN (kp f h q) (sm f n)) (rD (kp f h q) (sm f n)) W0 hn hm hq (hr.gr G0.out) (hs.gr G0.out) (ht.gr G0.out)
    (fun hv hc wz kz => Noise1_any a a3 n c q c3 (w.heap.size + 1) (.slice a2 m d) f h (sm f n) (sm g m) wz hq (hr.gr (G0.out.trans kz)) (ht.gr (G0.out.trans kz)) (vO_iff.1 hv).noise.ok (cutB_iff.1 hc).ok (vO_iff.1 hv).noise.sum (kz.cell B3.out)))
  obtain ⟨p0, p1⟩ := B1.out
  have p2 := B3.out
  generalize (rN (kp f h q) (sm f n)) = P at *
  generalize (rD (kp f h q) (sm f n)) = Q at *
  generalize askE n m f g q h = E at *
  clear hr hs ht
  go_enter Tryz.func37, Tryz.ntmps37
  go_wp2_with (go_at_call 60; (with_reducible refine CA.out.mono ?_); rintro e w1 ⟨rfl, g1⟩; have G1 := Lib.hid (G0.out.trans g1); obtain ⟨k0, k1, k2, k3⟩ := B2.out.gr g1; clear g1)
  obtain ⟨z0, z1, _⟩ := (show Box2 w1 (w.heap.size + 1 + 1) 0 0 from ⟨k0, k1, k2, k3⟩).put (x' := okN E P) (y' := okN E Q)
  refine bodyPost_ret (v := .tuple #[.agg #[.int .i64 (okN E P), .int .i64 (okN E Q)], .int .i64 E]) (by simp [results, Tryz.results37, go_sem, z0, z1]) rfl ⟨rfl, ?_⟩
  repeat (first | exact G1.out | refine Gr.setCell ?_ (by simp; omega) _ | refine Gr.setCell ?_ (by simp) _ | refine Gr.alloc ?_ _ | refine Gr.drewN ?_ _ | refine Gr.drew ?_)

set_option maxHeartbeats 1000000 in
theorem Signal_any (a a2 a3 : Option Addr) (n c m d q c3 : Nat) (f g h : Nat → Int) (w : World) (hn : n ≤ 1000) (hm : m ≤ 1000) (hq : q ≤ 1000) (hr : RdI w a n f) (hs : RdI w a2 m g) (ht : RdI w a3 q h) :
    Calls Tryz.prog 38 #[.agg #[.slice a n c, .slice a2 m d], .slice a3 q c3] w
      (RetRE (okN (askE n m f g q h) (rN (kp g h q) (sm g m))) (okN (askE n m f g q h) (rD (kp g h q) (sm g m))) (askE n m f g q h) w) := by
  obtain ⟨W0, hW0⟩ : ∃ W0, ((w.alloc (.cells #[.slice a n c, .slice a2 m d] 24)).alloc (.cells #[.slice a3 q c3] 22)).alloc (.cells #[.int .i64 0, .int .i64 0] 28) = W0 := ⟨_, rfl⟩
  have G0 := Lib.hid (show Gr w W0 by rw [← hW0]; exact (((Gr.refl w).alloc _).alloc _).alloc _)
  have B1 := Lib.hid (show BoxO W0 w.heap.size (.slice a n c) (.slice a2 m d) by rw [← hW0]; exact (BoxO.new rfl).gr (((Gr.refl _).alloc _).alloc _))
  have B3 := Lib.hid (show W0.cell? ⟨w.heap.size + 1, 0, none⟩ = some (.slice a3 q c3) by rw [← hW0]; exact ((Gr.refl _).alloc _).cell (((Gr.refl ((w.alloc (.cells #[.slice a n c, .slice a2 m d] 24)).alloc (.cells #[.slice a3 q c3] 22))).fresh' (b := w.heap.size + 1) (j := 0) (v := .slice a3 q c3) (by simp) rfl).1))
  have B2 := Lib.hid (show Box2 W0 (w.heap.size + 1 + 1) 0 0 by rw [← hW0]; exact Box2.new (by simp))
  have hmf : ∀ (fn : Fn) (first cap : Array Value) (w : World), (Instr.makeFunc fn first cap).run Tryz.prog w = .ok (.func fn first cap) w := fun _ _ _ _ => rfl
  have CA := Lib.hid (asked_any 62 (.pointer (some ⟨w.heap.size + 1, 0, none⟩)) cf44 a a2 a3 n c m d q c3 f g h (rN (kp g h q) (sm g m)) (rD (kp g h q) (sm g m)) W0 hn hm hq (hr.gr G0.out) (hs.gr G0.out) (ht.gr G0.out)
    (fun hv hc wz kz => Signal1_any a2 a3 m d q c3 (w.heap.size + 1) (.slice a n c) g h (sm g m) (sm f n) wz hq (hs.gr (G0.out.trans kz)) (ht.gr (G0.out.trans kz)) (vO_iff.1 hv).sig.ok (by rw [← (vO_iff.1 hv).same]; exact (cutB_iff.1 hc).ok) (vO_iff.1 hv).sig.sum (kz.cell B3.out)))
  obtain ⟨p0, p1⟩ := B1.out
  have p2 := B3.out
  generalize (rN (kp g h q) (sm g m)) = P at *
  generalize (rD (kp g h q) (sm g m)) = Q at *
  generalize askE n m f g q h = E at *
  clear hr hs ht
  go_enter Tryz.func38, Tryz.ntmps38
  go_wp2_with (go_at_call 60; (with_reducible refine CA.out.mono ?_); rintro e w1 ⟨rfl, g1⟩; have G1 := Lib.hid (G0.out.trans g1); obtain ⟨k0, k1, k2, k3⟩ := B2.out.gr g1; clear g1)
  obtain ⟨z0, z1, _⟩ := (show Box2 w1 (w.heap.size + 1 + 1) 0 0 from ⟨k0, k1, k2, k3⟩).put (x' := okN E P) (y' := okN E Q)
  refine bodyPost_ret (v := .tuple #[.agg #[.int .i64 (okN E P), .int .i64 (okN E Q)], .int .i64 E]) (by simp [results, Tryz.results38, go_sem, z0, z1]) rfl ⟨rfl, ?_⟩
  repeat (first | exact G1.out | refine Gr.setCell ?_ (by simp; omega) _ | refine Gr.setCell ?_ (by simp) _ | refine Gr.alloc ?_ _ | refine Gr.drewN ?_ _ | refine Gr.drew ?_)

set_option maxHeartbeats 1000000 in
theorem refasked_any (a a2 a3 : Option Addr) (n c m d q c3 : Nat) (f g h : Nat → Int) (w : World) (hn : n ≤ 1000) (hm : m ≤ 1000) (hq : q ≤ 1000) (hr : RdI w a n f) (hs : RdI w a2 m g) (ht : RdI w a3 q h) :
    Calls Tryz.prog 49 #[.agg #[.slice a n c, .slice a2 m d], .slice a3 q c3] w fun e w' => e = .returned (.int .i64 (askE n m f g q h)) ∧ Gr w w' := by
  obtain ⟨W0, hW0⟩ : ∃ W0, w.alloc (.cells #[.slice a n c, .slice a2 m d] 24) = W0 := ⟨_, rfl⟩
  have G0 := Lib.hid (show Gr w W0 by rw [← hW0]; exact (Gr.refl w).alloc _)
  have B1 := Lib.hid (show BoxO W0 w.heap.size (.slice a n c) (.slice a2 m d) by rw [← hW0]; exact BoxO.new rfl)
  have C := Lib.hid (refValid_any a a2 n c m d f g W0 hn hm (hr.gr G0.out) (hs.gr G0.out))
  have C1 := Lib.hid (fun w' (k : Gr W0 w') => refIsCut_any a a3 n c q c3 (.slice a2 m d) h w' hq ((ht.gr G0.out).gr k))
  obtain ⟨p0, p1⟩ := B1.out
  clear hr hs ht
  cases hv : vO n m f g with
  | false =>
    have E := Lib.hid (askE_no (q := q) (h := h) hv)
    rw [E.out]
    rw [hv] at C
    clear hv
    go_enter Tryz.func49, Tryz.ntmps49
    go_wp2_with (go_at_call 6; (with_reducible refine C.out.mono ?_); rintro e w1 ⟨rfl, g1⟩)
    go_ret
    exact ⟨rfl, G0.out.trans g1⟩
  | true =>
    rw [hv] at C
    cases hc : cutB n q h with
    | false =>
      have E := Lib.hid (askE_bad hv hc)
      rw [E.out]
      rw [hc] at C1
      clear hv hc
      go_enter Tryz.func49, Tryz.ntmps49
      go_wp2_with (first
        | (go_at_call 6; (with_reducible refine C.out.mono ?_); rintro e w1 ⟨rfl, g1⟩; have G1 := Lib.hid g1; obtain ⟨q0, q1⟩ := B1.out.gr g1; clear g1 p0 p1)
        | (go_at_call 18; (with_reducible refine (C1.out _ G1.out).mono ?_); rintro e w2 ⟨rfl, g2⟩))
      go_ret
      exact ⟨rfl, (G0.out.trans G1.out).trans g2⟩
    | true =>
      have E := Lib.hid (askE_ok hv hc)
      rw [E.out]
      rw [hc] at C1
      clear hv hc
      go_enter Tryz.func49, Tryz.ntmps49
      go_wp2_with (first
        | (go_at_call 6; (with_reducible refine C.out.mono ?_); rintro e w1 ⟨rfl, g1⟩; have G1 := Lib.hid g1; obtain ⟨q0, q1⟩ := B1.out.gr g1; clear g1 p0 p1)
        | (go_at_call 18; (with_reducible refine (C1.out _ G1.out).mono ?_); rintro e w2 ⟨rfl, g2⟩))
      go_ret
      exact ⟨rfl, (G0.out.trans G1.out).trans g2⟩

end Go.Proofs.YtohcnicadbpbbaaGreatDoor

namespace Go.Proofs.YtohcnicadbpbbaaGreatDoor
open Go.RowKit Go.Firn

theorem isNaN_any (x : Int) (w : World) : Calls Tryz.prog 83 #[.int .i64 x] w fun e w' => e = .returned (.bool false) ∧ w' = w := by
  go_enter Tryz.func83, Tryz.ntmps83
  go_wp2
  go_ret
  exact ⟨rfl, rfl⟩

/-- The sign of a comparison. -/
def cmpI (x y : Int) : Int := if x < y then -1 else if y < x then 1 else 0
theorem Compare_any (x y : Int) (w : World) : Calls Tryz.prog 70 #[.int .i64 x, .int .i64 y] w fun e w' => e = .returned (.int .i64 (cmpI x y)) ∧ w' = w := by
  rcases Int.lt_trichotomy x y with h | h | h
  · have e : cmpI x y = -1 := by simp [cmpI, h]
    rw [e]
    have d1 : decide (x < y) = true := by simp; omega
    go_enter Tryz.func70, Tryz.ntmps70
    go_wp2_with (go_at_call 83; refine (isNaN_any _ _).mono ?_; rintro e w1 ⟨rfl, rfl⟩)
    go_ret
    exact ⟨rfl, rfl⟩
  · have e : cmpI x y = 0 := by simp [cmpI, h]
    rw [e]
    have d1 : decide (x < y) = false := by simp; omega
    have d2 : decide (y < x) = false := by simp; omega
    clear h
    go_enter Tryz.func70, Tryz.ntmps70
    go_wp2_with (go_at_call 83; refine (isNaN_any _ _).mono ?_; rintro e w1 ⟨rfl, rfl⟩)
    go_ret
    exact ⟨rfl, rfl⟩
  · have e : cmpI x y = 1 := by simp [cmpI, h]; omega
    rw [e]
    have d1 : decide (x < y) = false := by simp; omega
    have d2 : decide (y < x) = true := by simp; omega
    clear h
    go_enter Tryz.func70, Tryz.ntmps70
    go_wp2_with (go_at_call 83; refine (isNaN_any _ _).mono ?_; rintro e w1 ⟨rfl, rfl⟩)
    go_ret
    exact ⟨rfl, rfl⟩

/-- The first of two numbers that is not 0. -/
def orI (p q : Int) : Int := if p = 0 then q else p
theorem Or_any (b o : Nat) (p q : Int) (w : World) (h0 : w.cell? ⟨b, o, none⟩ = some (.int .i64 p)) (h1 : w.cell? ⟨b, o + 1, none⟩ = some (.int .i64 q)) :
    Calls Tryz.prog 69 #[.slice (some ⟨b, o, none⟩) 2 2] w fun e w' => e = .returned (.int .i64 (orI p q)) ∧ w' = w := by
  go_enter Tryz.func69, Tryz.ntmps69
  go_wp2_with fail
  go_loopw [8] (fun i wr => ∃ k : Nat, k ≤ 2 ∧ i = .int .i64 k ∧ Hid (1 ≤ k → p = 0) ∧ Hid (2 ≤ k → q = 0) ∧ wr = w) (fun i _ => 2 - (intOf i).toNat)
  case atStart => exact ⟨0, by omega, rfl, Lib.hid (by omega), Lib.hid (by omega), rfl⟩
  case round =>
    obtain ⟨k, hk, rfl, A, B, rfl⟩ := hrel
    rcases (show k = 0 ∨ k = 1 ∨ k = 2 by omega) with rfl | rfl | rfl
    · by_cases hp : p = 0
      · have t1 : (p != 0) = false := by simp [hp]
        clear h1
        go_wp2_with fail
        go_roundw
        case rel => exact ⟨1, by omega, rfl, Lib.hid (fun _ => hp), Lib.hid (by omega), by trivial⟩
        case measure => simp [intOf]
      · have t1 : (p != 0) = true := by simp [hp]
        have E := Lib.hid (show orI p q = p from if_neg hp)
        clear h1 hp
        go_wp2_with fail
        go_ret
        rw [E.out]
        exact ⟨rfl, rfl⟩
    · have P := Lib.hid (A.out (by omega))
      have E := Lib.hid (show orI p q = q from if_pos P.out)
      by_cases hq : q = 0
      · have t1 : (q != 0) = false := by simp [hq]
        clear h0
        go_wp2_with fail
        go_roundw
        case rel => exact ⟨2, by omega, rfl, Lib.hid (fun _ => P.out), Lib.hid (fun _ => hq), by trivial⟩
        case measure => simp [intOf]
      · have t1 : (q != 0) = true := by simp [hq]
        clear h0 hq
        go_wp2_with fail
        go_ret
        rw [E.out]
        exact ⟨rfl, rfl⟩
    · have E := Lib.hid (show orI p q = 0 by rw [A.out (by omega), B.out (by omega)]; rfl)
      clear h0 h1
      go_wp2_with fail
      go_ret
      rw [E.out]
      exact ⟨rfl, rfl⟩

/-- Whether an outcome has neither noise nor signal. -/
def nth (f g : Nat → Int) (a : Nat) : Int := if f a + g a = 0 then 1 else 0
theorem compare1_any (a a2 : Option Addr) (n c d b : Nat) (f g : Nat → Int) (i : Nat) (u v : Value) (w : World) (hi : i < n) (hr : RdI w a n f) (hs : RdI w a2 n g)
    (hf : 0 ≤ f i ∧ f i ≤ 1000) (hg : 0 ≤ g i ∧ g i ≤ 1000) (hb : Box4 w b (.slice a n c) (.slice a2 n d) u v) :
    Calls Tryz.prog 68 #[.int .i64 i, .pointer (some ⟨b, 0, none⟩)] w fun e w' => e = .returned (.int .i64 (nth f g i)) ∧ ∃ m, w' = w.drewN m := by
  obtain ⟨b1, o1, rfl, hc⟩ := hr.at hi
  obtain ⟨b2, o2, rfl, hc'⟩ := hs.at hi
  have c1 := hc i hi
  have c2 := hc' i hi
  obtain ⟨p0, p1, _⟩ := hb
  have i1 : (i : Int) < n := by omega
  clear hc hc' hr hs
  by_cases h : f i + g i = 0
  · rw [show nth f g i = 1 from if_pos h]
    generalize f i = x at *
    generalize g i = y at *
    have q1 : IntKind.i64.wrap (x + y) = x + y := IntWalk.i64_in _ (by omega)
    have t1 : (x + y == 0) = true := by simp [h]
    clear h hf hg
    go_enter Tryz.func68, Tryz.ntmps68
    go_wp2_with fail
    go_quiet (fail)
    go_wp2_with fail
    go_ret
    exact ⟨rfl, _, rfl⟩
  · rw [show nth f g i = 0 from if_neg h]
    generalize f i = x at *
    generalize g i = y at *
    have q1 : IntKind.i64.wrap (x + y) = x + y := IntWalk.i64_in _ (by omega)
    have t1 : (x + y == 0) = false := by simp [h]
    clear h hf hg
    go_enter Tryz.func68, Tryz.ntmps68
    go_wp2_with fail
    go_quiet (fail)
    go_wp2_with fail
    go_ret
    exact ⟨rfl, _, rfl⟩

end Go.Proofs.YtohcnicadbpbbaaGreatDoor
