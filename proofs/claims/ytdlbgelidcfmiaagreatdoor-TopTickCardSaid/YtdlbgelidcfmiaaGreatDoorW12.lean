/- Contracts of chapter 1: the line of a clock at some place, by a closure; its time and its speed. -/
import Derived.Test.YtdlbgelidcfmiaaGreatDoorW11
namespace Go.Proofs.YtdlbgelidcfmiaaGreatDoor
open Go.RowKit Go.Firn

/-- A line: two marks. -/
def RetL (a b c d : Int) (w : World) (e : Ending) (w' : World) : Prop := e = .returned (.agg #[.int .i64 a, .int .i64 b, .int .i64 c, .int .i64 d]) ∧ Gr w w'

theorem at1_any (l t x : Int) (p : Addr) (w : World) (h : w.cell? p = some (.int .i64 x)) :
    Calls Tryz.prog 70 #[.agg #[.int .i64 l, .int .i64 t], .pointer (some p)] w (RetB (decide (l ≤ x)) w) := by
  have h' := ((Gr.refl w).alloc (.cells #[.int .i64 l, .int .i64 t] 55)).cell h
  go_enter Tryz.func70, Tryz.ntmps70
  go_wp2
  go_ret
  exact ⟨rfl, (Gr.refl w).alloc _⟩

theorem back1_any (l t N D : Int) (b : Nat) (w : World) (h0 : w.cell? ⟨b, 0, none⟩ = some (.int .i64 N)) (h1 : w.cell? ⟨b, 1, none⟩ = some (.int .i64 D))
    (ht : 0 ≤ t ∧ t ≤ 100000) (hD : 1 ≤ D ∧ D ≤ 100000) :
    Calls Tryz.prog 40 #[.agg #[.int .i64 l, .int .i64 t], .pointer (some ⟨b, 0, none⟩)] w (RetB (decide (t * D ≤ N)) w) := by
  have h0' := ((Gr.refl w).alloc (.cells #[.int .i64 l, .int .i64 t] 55)).cell h0
  have h1' := ((Gr.refl w).alloc (.cells #[.int .i64 l, .int .i64 t] 55)).cell h1
  have m := mul_bd (a := t) (b := D) (A := 100000) (B := 100000) (by omega) (by omega) (by omega) (by omega)
  obtain ⟨m1, m2⟩ := m
  go_enter Tryz.func40, Tryz.ntmps40
  go_wp2
  go_ret
  exact ⟨rfl, (Gr.refl w).alloc _⟩

set_option maxRecDepth 100000 in
set_option maxHeartbeats 1000000 in
theorem line_any (F : Nat) (v : Value) (hcf : ∀ (args : Array Value) (wz : World), (callFunc F args).run Tryz.prog wz = .ok (.enter F args) wz) (p : Nat → Bool) (a : Option Addr) (n c : Nat) (L T : Nat → Int) (w : World) (hn : n ≤ 9223372036854775807) (hn2 : 2 ≤ n) (hr : RdM w a n L T)
    (H : Hid (∀ j, j < n → ∀ wz, Gr w wz → Calls Tryz.prog F #[.agg #[.int .i64 (L j), .int .i64 (T j)], v] wz (RetB (p j) wz))) :
    Calls Tryz.prog 39 #[.slice a n c, .func (.func F) #[] #[v]] w (RetL (L (ix p n)) (T (ix p n)) (L (ix p n + 1)) (T (ix p n + 1)) w) := by
  obtain ⟨b, o, rfl, hc⟩ := hr.at (k := 0) (by omega)
  have Hc := Lib.hid hc
  clear hc hr
  go_enter Tryz.func39, Tryz.ntmps39
  go_wp2_with fail
  go_loopw [5] (fun i wr => ∃ k : Nat, k ≤ n - 2 ∧ i = .int .i64 k ∧ Hid (ixf p (n - 2 - k) k = ix p n) ∧ Gr (w.alloc (.cells #[.int .i64 0, .int .i64 0, .int .i64 0, .int .i64 0] 57)) wr) (fun i _ => n - (intOf i).toNat)
  case atStart => exact ⟨0, by omega, rfl, rfl, Gr.refl _⟩
  case round =>
    obtain ⟨k, hk, rfl, Hi, hg⟩ := hrel
    have hg0 : Gr w wr := ((Gr.refl w).alloc _).trans hg
    by_cases hlt : k < n - 2
    · have c1 := hg0.cell (Hc.out (k + 1) (by omega)).1
      have c2 := hg0.cell (Hc.out (k + 1) (by omega)).2
      have i1 : (0 : Int) ≤ (k : Int) + 1 := by omega
      have i2 : (k : Int) + 1 < n := by omega
      have i3 : ((k : Int) + 1).toNat = k + 1 := by omega
      have i4 : (k : Int) < (n : Int) - 2 := by omega
      cases hp : p (k + 1) with
      | true =>
        have Hi' : Hid (ixf p (n - 2 - (k + 1)) (k + 1) = ix p n) := by
          have := Hi.out
          rw [show n - 2 - k = (n - 2 - (k + 1)) + 1 by omega, ixf, if_pos hp] at this
          exact this
        have Hp := Lib.hid hp
        clear hp
        go_wp2_with fail
        refine (H.out (k + 1) (by omega) _ hg0).mono ?_
        rintro e w1 ⟨rfl, g1⟩
        rw [Hp.out]
        go_wp2_with fail
        go_roundw
        case rel => exact ⟨k + 1, by omega, by go_num, Hi', hg.trans g1⟩
        case measure => simp [intOf]; omega
      | false =>
        have Hp := Lib.hid hp
        have E := Lib.hid (show ix p n = k by
          have := Hi.out
          rw [show n - 2 - k = (n - 2 - (k + 1)) + 1 by omega, ixf, if_neg (by simp [hp])] at this
          exact this.symm)
        clear hp
        go_wp2_with fail
        refine (H.out (k + 1) (by omega) _ hg0).mono ?_
        rintro e w1 ⟨rfl, g1⟩
        rw [Hp.out]
        have hg1 := hg.trans g1
        have d1 := g1.cell c1
        have d2 := g1.cell c2
        have d3 := g1.cell (hg0.cell (Hc.out k (by omega)).1)
        have d4 := g1.cell (hg0.cell (Hc.out k (by omega)).2)
        obtain ⟨s0, f0⟩ := hg1.fresh (j := 0) rfl
        obtain ⟨s1, f1⟩ := hg1.fresh (j := 1) rfl
        obtain ⟨s2, f2⟩ := hg1.fresh (j := 2) rfl
        obtain ⟨s3, f3⟩ := hg1.fresh (j := 3) rfl
        have hsz : w.heap.size < w1.heap.size := by have := hg1.size; simp at this; omega
        clear c1 c2
        go_wp2_with fail
        go_region
        all_goals go_wp2_with fail
        rw [E.out]
        refine bodyPost_ret (v := .agg #[.int .i64 (L k), .int .i64 (T k), .int .i64 (L (k + 1)), .int .i64 (T (k + 1))]) (by simp [results, Tryz.results39, go_sem, *]) rfl ⟨rfl, ?_⟩
        have G : Gr w w1 := hg0.trans g1
        exact ((((G.drew).setCell (Nat.le_refl _) _).setCell (Nat.le_refl _) _).setCell (Nat.le_refl _) _).setCell (Nat.le_refl _) _
    · have hk2 : k = n - 2 := by omega
      have E := Lib.hid (show ix p n = k by
        have := Hi.out
        rw [hk2, Nat.sub_self, ixf] at this
        omega)
      have K2 := Lib.hid hk2
      clear hk2
      have i1 : (0 : Int) ≤ (k : Int) + 1 := by omega
      have i2 : (k : Int) + 1 < n := by omega
      have i3 : ((k : Int) + 1).toNat = k + 1 := by omega
      have i4 : ¬ (k : Int) < (n : Int) - 2 := by have := K2.out; omega
      have i5 : (k : Int) < n := by omega
      have d1 := (hg0.cell (Hc.out (k + 1) (by have := K2.out; omega)).1)
      have d2 := (hg0.cell (Hc.out (k + 1) (by have := K2.out; omega)).2)
      have d3 := (hg0.cell (Hc.out k (by have := K2.out; omega)).1)
      have d4 := (hg0.cell (Hc.out k (by have := K2.out; omega)).2)
      obtain ⟨s0, f0⟩ := hg.fresh (j := 0) rfl
      obtain ⟨s1, f1⟩ := hg.fresh (j := 1) rfl
      obtain ⟨s2, f2⟩ := hg.fresh (j := 2) rfl
      obtain ⟨s3, f3⟩ := hg.fresh (j := 3) rfl
      have hsz := hg.freshSize
      go_wp2_with fail
      go_region
      all_goals go_wp2_with fail
      rw [E.out]
      refine bodyPost_ret (v := .agg #[.int .i64 (L k), .int .i64 (T k), .int .i64 (L (k + 1)), .int .i64 (T (k + 1))]) (by simp [results, Tryz.results39, go_sem, *]) rfl ⟨rfl, ?_⟩
      exact ((((hg0.drew).setCell (Nat.le_refl _) _).setCell (Nat.le_refl _) _).setCell (Nat.le_refl _) _).setCell (Nat.le_refl _) _

theorem cf98 (args : Array Value) (wz : World) : (callFunc 70 args).run Tryz.prog wz = .ok (.enter 70 args) wz := by kernel_rfl
theorem cf68 (args : Array Value) (wz : World) : (callFunc 40 args).run Tryz.prog wz = .ok (.enter 40 args) wz := by kernel_rfl

/-- The line at a local time. -/
theorem at_any (a : Option Addr) (n c : Nat) (L T : Nat → Int) (x : Int) (w : World) (hn : n ≤ 9223372036854775807) (hn2 : 2 ≤ n) (hr : RdM w a n L T) :
    Calls Tryz.prog 51 #[.slice a n c, .int .i64 x] w (RetL (L (ix (pA L x) n)) (T (ix (pA L x) n)) (L (ix (pA L x) n + 1)) (T (ix (pA L x) n + 1)) w) := by
  generalize hi : ix (pA L x) n = i
  have Hi := Lib.hid hi
  clear hi
  have g0 : Gr w ((w.alloc (.cells #[.int .i64 x] 3)).alloc (.cells #[.int .i64 0, .int .i64 0, .int .i64 0, .int .i64 0] 57)) := ((Gr.refl w).alloc _).alloc _
  go_enter Tryz.func51, Tryz.ntmps51
  go_wp2_with fail
  refine (line_any 70 _ cf98 (pA L x) a n c L T _ hn hn2 (hr.gr g0) (fun j hj wz g => at1_any _ _ x _ wz (g.cell (((Gr.refl _).alloc _).cell (cell_new1 w _ _))))).mono ?_
  rintro e w1 ⟨rfl, g⟩
  rw [Hi.out]
  obtain ⟨s0, f0⟩ := g.fresh' (b := w.heap.size + 1) (j := 0) (by simp) rfl
  obtain ⟨s1, f1⟩ := g.fresh' (b := w.heap.size + 1) (j := 1) (by simp) rfl
  obtain ⟨s2, f2⟩ := g.fresh' (b := w.heap.size + 1) (j := 2) (by simp) rfl
  obtain ⟨s3, f3⟩ := g.fresh' (b := w.heap.size + 1) (j := 3) (by simp) rfl
  have hsz : w.heap.size + 1 < w1.heap.size := by have := g.freshSize; simp at this; omega
  go_wp2_with fail
  refine bodyPost_ret (v := .agg #[.int .i64 (L i), .int .i64 (T i), .int .i64 (L (i + 1)), .int .i64 (T (i + 1))]) (by simp [results, Tryz.results51, go_sem, *]) rfl ⟨rfl, ?_⟩
  exact ((((g0.trans g).setAt (by omega) _).setAt (by omega) _).setAt (by omega) _).setAt (by omega) _

end Go.Proofs.YtdlbgelidcfmiaaGreatDoor
