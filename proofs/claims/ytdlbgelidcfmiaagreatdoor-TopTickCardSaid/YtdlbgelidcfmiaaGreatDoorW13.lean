/- Contracts of chapter 1: the time and the speed of a line; At and Speed of the program. -/
import Derived.Test.YtdlbgelidcfmiaaGreatDoorW12
namespace Go.Proofs.YtdlbgelidcfmiaaGreatDoor
open Go.RowKit Go.Firn

/-- The time at x of the line through two marks, n / d. -/
def tN (a b c d x : Int) : Int := (x - a) * (d - b) + b * (c - a)
theorem tN_sz {a b c d x : Int} (ha : 0 ≤ a ∧ a ≤ 100000) (hb : 0 ≤ b ∧ b ≤ 100000) (hc : 0 ≤ c ∧ c ≤ 100000) (hd : 0 ≤ d ∧ d ≤ 100000) (hx : -200000 ≤ x ∧ x ≤ 200000) : Sz (tN a b c d x) := by
  have m1 := mul_bd (a := x - a) (b := d - b) (A := 300000) (B := 100000) (by omega) (by omega) (by omega) (by omega)
  have m2 := mul_bd (a := b) (b := c - a) (A := 100000) (B := 100000) (by omega) (by omega) (by omega) (by omega)
  unfold tN Sz
  omega

set_option maxRecDepth 100000 in
theorem time_any (a b c d x : Int) (w : World) (ha : 0 ≤ a ∧ a ≤ 100000) (hb : 0 ≤ b ∧ b ≤ 100000) (hc : 0 ≤ c ∧ c ≤ 100000) (hd : 0 ≤ d ∧ d ≤ 100000) (hac : a < c) (hx : -200000 ≤ x ∧ x ≤ 200000) :
    Calls Tryz.prog 34 #[.agg #[.int .i64 a, .int .i64 b, .int .i64 c, .int .i64 d], .int .i64 x] w (RetR (rN (tN a b c d x) (c - a)) (rD (tN a b c d x) (c - a)) w) := by
  have m1 := mul_bd (a := x - a) (b := d - b) (A := 300000) (B := 100000) (by omega) (by omega) (by omega) (by omega)
  have m2 := mul_bd (a := b) (b := c - a) (A := 100000) (B := 100000) (by omega) (by omega) (by omega) (by omega)
  obtain ⟨m11, m12⟩ := m1
  obtain ⟨m21, m22⟩ := m2
  have hsz : Sz (tN a b c d x) := tN_sz ha hb hc hd hx
  have hsd : Sz (c - a) := ⟨by omega, by omega⟩
  have g0 : Gr w ((w.alloc (.cells #[.int .i64 a, .int .i64 b, .int .i64 c, .int .i64 d] 57)).alloc (.cells #[.int .i64 0, .int .i64 0] 37)) := ((Gr.refl w).alloc _).alloc _
  go_enter Tryz.func34, Tryz.ntmps34
  go_wp2_with fail
  refine (ratio_any (tN a b c d x) (c - a) _ hsz hsd (by omega)).mono ?_
  rintro e w1 ⟨rfl, g⟩
  obtain ⟨s0, f0⟩ := g.fresh' (b := w.heap.size + 1) (j := 0) (by simp) rfl
  obtain ⟨s1, f1⟩ := g.fresh' (b := w.heap.size + 1) (j := 1) (by simp) rfl
  have hsz : w.heap.size + 1 < w1.heap.size := by have := g.freshSize; simp at this; omega
  have G : Gr w w1 := g0.trans g
  clear g
  go_wp2_with fail
  refine bodyPost_ret (v := .agg #[.int .i64 (rN (tN a b c d x) (c - a)), .int .i64 (rD (tN a b c d x) (c - a))]) (by simp [results, Tryz.results34, go_sem, *]) rfl ⟨rfl, ?_⟩
  exact ((G.setAt (by omega) _).setAt (by omega) _)

theorem speed_any (a b c d : Int) (w : World) (ha : 0 ≤ a ∧ a ≤ 100000) (hb : 0 ≤ b ∧ b ≤ 100000) (hc : 0 ≤ c ∧ c ≤ 100000) (hd : 0 ≤ d ∧ d ≤ 100000) (hac : a < c) :
    Calls Tryz.prog 28 #[.agg #[.int .i64 a, .int .i64 b, .int .i64 c, .int .i64 d]] w (RetR (rN (d - b) (c - a)) (rD (d - b) (c - a)) w) := by
  have hsz : Sz (d - b) := ⟨by omega, by omega⟩
  have hsd : Sz (c - a) := ⟨by omega, by omega⟩
  have g0 : Gr w ((w.alloc (.cells #[.int .i64 a, .int .i64 b, .int .i64 c, .int .i64 d] 57)).alloc (.cells #[.int .i64 0, .int .i64 0] 37)) := ((Gr.refl w).alloc _).alloc _
  go_enter Tryz.func28, Tryz.ntmps28
  go_wp2_with fail
  refine (ratio_any (d - b) (c - a) _ hsz hsd (by omega)).mono ?_
  rintro e w1 ⟨rfl, g⟩
  obtain ⟨s0, f0⟩ := g.fresh' (b := w.heap.size + 1) (j := 0) (by simp) rfl
  obtain ⟨s1, f1⟩ := g.fresh' (b := w.heap.size + 1) (j := 1) (by simp) rfl
  have hsz : w.heap.size + 1 < w1.heap.size := by have := g.freshSize; simp at this; omega
  have G : Gr w w1 := g0.trans g
  clear g
  go_wp2_with fail
  refine bodyPost_ret (v := .agg #[.int .i64 (rN (d - b) (c - a)), .int .i64 (rD (d - b) (c - a))]) (by simp [results, Tryz.results28, go_sem, *]) rfl ⟨rfl, ?_⟩
  exact ((G.setAt (by omega) _).setAt (by omega) _)

end Go.Proofs.YtdlbgelidcfmiaaGreatDoor
