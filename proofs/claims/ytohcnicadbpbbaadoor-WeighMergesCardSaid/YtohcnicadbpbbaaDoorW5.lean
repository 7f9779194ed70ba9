/- Contracts of chapter 7: valid odds with their sums. -/
import Derived.Test.YtohcnicadbpbbaaDoorW4
import Derived.Deep.RegionHeld3
import Derived.Deep.DeepCutAuto
namespace Go.Proofs.YtohcnicadbpbbaaDoor
open Go.RowKit Go.Firn

/-- A struct of four cells in a block of the call's own. -/
def Box4 (w : World) (b : Nat) (s t u v : Value) : Prop :=
  w.cell? ⟨b, 0, none⟩ = some s ∧ w.cell? ⟨b, 1, none⟩ = some t ∧ w.cell? ⟨b, 2, none⟩ = some u ∧ w.cell? ⟨b, 3, none⟩ = some v ∧
    w.frozen? ⟨b, 0, none⟩ = false ∧ w.frozen? ⟨b, 1, none⟩ = false ∧ w.frozen? ⟨b, 2, none⟩ = false ∧ w.frozen? ⟨b, 3, none⟩ = false
theorem Box4.gr {w w' : World} {b : Nat} {s t u v : Value} (h : Box4 w b s t u v) (g : Gr w w') : Box4 w' b s t u v := by
  obtain ⟨h0, h1, h2, h3, f0, f1, f2, f3⟩ := h
  have hb := World.block_lt_of_cell? w _ h0
  exact ⟨g.cell h0, g.cell h1, g.cell h2, g.cell h3, by rw [Below.frozen g hb]; exact f0, by rw [Below.frozen g (p := ⟨b, 1, none⟩) hb]; exact f1,
    by rw [Below.frozen g (p := ⟨b, 2, none⟩) hb]; exact f2, by rw [Below.frozen g (p := ⟨b, 3, none⟩) hb]; exact f3⟩
theorem Box4.new {w : World} {b e : Nat} {s t u v : Value} (hb : w.heap.size = b) : Box4 (w.alloc (.cells #[s, t, u, v] e)) b s t u v := by
  have g := Gr.refl (w.alloc (.cells #[s, t, u, v] e))
  obtain ⟨a0, c0⟩ := g.fresh' (j := 0) hb rfl
  obtain ⟨a1, c1⟩ := g.fresh' (j := 1) hb rfl
  obtain ⟨a2, c2⟩ := g.fresh' (j := 2) hb rfl
  obtain ⟨a3, c3⟩ := g.fresh' (j := 3) hb rfl
  exact ⟨a0, a1, a2, a3, c0, c1, c2, c3⟩
theorem cell_near {w : World} {b j : Nat} {v : Value} (h : w.cell? ⟨b, j, none⟩ = some v) (u : Value) : (w.setCell ⟨b, j, none⟩ u).cell? ⟨b, j, none⟩ = some u :=
  World.cell?_setCell_same _ _ _ h
theorem cell_by {w : World} {b j k : Nat} {v : Value} (h : w.cell? ⟨b, j, none⟩ = some v) (hk : k ≠ j) (u : Value) : (w.setCell ⟨b, k, none⟩ u).cell? ⟨b, j, none⟩ = some v := by
  rw [World.cell?_setCell_other _ _ _ _ (fun e => hk (congrArg Addr.off e))]; exact h
theorem Box4.put {w : World} {b : Nat} {s t u v : Value} (h : Box4 w b s t u v) (s' t' u' v' : Value) :
    Box4 ((((w.setCell ⟨b, 0, none⟩ s').setCell ⟨b, 1, none⟩ t').setCell ⟨b, 2, none⟩ u').setCell ⟨b, 3, none⟩ v') b s' t' u' v' := by
  obtain ⟨h0, h1, h2, h3, f0, f1, f2, f3⟩ := h
  have q1 := cell_by h1 (show 0 ≠ 1 by omega) s'
  have q2 := cell_by (cell_by h2 (show 0 ≠ 2 by omega) s') (show 1 ≠ 2 by omega) t'
  have q3 := cell_by (cell_by (cell_by h3 (show 0 ≠ 3 by omega) s') (show 1 ≠ 3 by omega) t') (show 2 ≠ 3 by omega) u'
  refine ⟨?_, ?_, ?_, cell_near q3 v', by simpa using f0, by simpa using f1, by simpa using f2, by simpa using f3⟩
  · exact cell_by (cell_by (cell_by (cell_near h0 s') (by omega) t') (by omega) u') (by omega) v'
  · exact cell_by (cell_by (cell_near q1 t') (by omega) u') (by omega) v'
  · exact cell_by (cell_near q2 u') (by omega) v'

/-- Odds with their sums, and an error. -/
def RetO (s t : Value) (x y err : Int) (w : World) (e : Ending) (w' : World) : Prop := e = .returned (.tuple #[.agg #[s, t, .int .i64 x, .int .i64 y], .int .i64 err]) ∧ Gr w w'

set_option maxHeartbeats 1000000 in
theorem newOdds_no (a a2 : Option Addr) (n c m d : Nat) (f g : Nat → Int) (w : World) (hn : n ≤ 1000) (hm : m ≤ 1000) (hr : RdI w a n f) (hs : RdI w a2 m g) (hv : vO n m f g = false) :
    Calls Tryd.prog 51 #[.agg #[.slice a n c, .slice a2 m d]] w (RetO (.slice none 0 0) (.slice none 0 0) 0 0 70 w) := by
  obtain ⟨W0, hW0⟩ : ∃ W0, (w.alloc (.cells #[.slice a n c, .slice a2 m d] 24)).alloc (.cells #[.slice none 0 0, .slice none 0 0, .int .i64 0, .int .i64 0] 58) = W0 := ⟨_, rfl⟩
  have G0 := Lib.hid (show Gr w W0 by rw [← hW0]; exact ((Gr.refl w).alloc _).alloc _)
  have B1 := Lib.hid (show BoxO W0 w.heap.size (.slice a n c) (.slice a2 m d) by rw [← hW0]; exact (BoxO.new rfl).gr ((Gr.refl _).alloc _))
  have B2 := Lib.hid (show Box4 W0 (w.heap.size + 1) (.slice none 0 0) (.slice none 0 0) (.int .i64 0) (.int .i64 0) by rw [← hW0]; exact Box4.new (by simp))
  have C := Lib.hid (fun w' (k : Gr w w') => Valid_any a a2 n c m d f g w' hn hm (hr.gr k) (hs.gr k))
  rw [hv] at C
  obtain ⟨p0, p1⟩ := B1.out
  clear hr hs hv
  go_enter Tryd.func51, Tryd.ntmps51
  go_wp2_with (go_at_call 52; (with_reducible refine (C.out _ G0.out).mono ?_); rintro e w1 ⟨rfl, g1⟩; have G1 := Lib.hid g1; obtain ⟨k0, k1, k2, k3, k4, k5, k6, k7⟩ := B2.out.gr g1; clear g1)
  obtain ⟨z0, z1, z2, z3, _⟩ := Box4.put (show Box4 w1 (w.heap.size + 1) (.slice none 0 0) (.slice none 0 0) (.int .i64 0) (.int .i64 0) from ⟨k0, k1, k2, k3, k4, k5, k6, k7⟩) (.slice none 0 0) (.slice none 0 0) (.int .i64 0) (.int .i64 0)
  refine bodyPost_ret (v := .tuple #[.agg #[.slice none 0 0, .slice none 0 0, .int .i64 0, .int .i64 0], .int .i64 70]) (by simp [results, Tryd.results51, go_sem, z0, z1, z2, z3]) rfl ⟨rfl, ?_⟩
  repeat (first | exact G0.out.trans G1.out | refine Gr.setCell ?_ (by simp; omega) _ | refine Gr.setCell ?_ (by simp) _ | refine Gr.alloc ?_ _ | refine Gr.drewN ?_ _ | refine Gr.drew ?_)

set_option maxHeartbeats 1000000 in
theorem newOdds_ok (a a2 : Option Addr) (n c m d : Nat) (f g : Nat → Int) (w : World) (hn : n ≤ 1000) (hm : m ≤ 1000) (hr : RdI w a n f) (hs : RdI w a2 m g) (hv : vO n m f g = true) :
    Calls Tryd.prog 51 #[.agg #[.slice a n c, .slice a2 m d]] w (RetO (.slice a n c) (.slice a2 m d) (sm f n) (sm g m) 0 w) := by
  obtain ⟨W0, hW0⟩ : ∃ W0, (w.alloc (.cells #[.slice a n c, .slice a2 m d] 24)).alloc (.cells #[.slice none 0 0, .slice none 0 0, .int .i64 0, .int .i64 0] 58) = W0 := ⟨_, rfl⟩
  have G0 := Lib.hid (show Gr w W0 by rw [← hW0]; exact ((Gr.refl w).alloc _).alloc _)
  have B1 := Lib.hid (show BoxO W0 w.heap.size (.slice a n c) (.slice a2 m d) by rw [← hW0]; exact (BoxO.new rfl).gr ((Gr.refl _).alloc _))
  have B2 := Lib.hid (show Box4 W0 (w.heap.size + 1) (.slice none 0 0) (.slice none 0 0) (.int .i64 0) (.int .i64 0) by rw [← hW0]; exact Box4.new (by simp))
  have C := Lib.hid (fun w' (k : Gr w w') => Valid_any a a2 n c m d f g w' hn hm (hr.gr k) (hs.gr k))
  have V := vO_iff.1 hv
  have C1 := Lib.hid (fun w' (k : Gr w w') => sum_any a n c f w' hn (hr.gr k) (fun i hi => by have := V.noise.ok i hi; omega))
  have C2 := Lib.hid (fun w' (k : Gr w w') => sum_any a2 m d g w' hm (hs.gr k) (fun i hi => by have := V.signal.ok i (by have := V.same; omega); omega))
  rw [hv] at C
  obtain ⟨p0, p1⟩ := B1.out
  clear hr hs hv V
  generalize sm f n = sf at *
  generalize sm g m = sg at *
  go_enter Tryd.func51, Tryd.ntmps51
  go_wp2_with (go_at_call 52; (with_reducible refine (C.out _ G0.out).mono ?_); rintro e w1 ⟨rfl, g1⟩; have G1 := Lib.hid (G0.out.trans g1); obtain ⟨k0, k1, k2, k3, k4, k5, k6, k7⟩ := B2.out.gr g1; obtain ⟨q0, q1⟩ := B1.out.gr g1; clear g1 p0 p1)
  go_region_held3 (fun w' => w'.cell? ⟨w.heap.size, 0, none⟩ = some (.slice a n c) ∧ w'.cell? ⟨w.heap.size, 1, none⟩ = some (.slice a2 m d))
    (first | exact ⟨q0, q1⟩ | go_keep)
    (first
      | (go_at_call 78; (with_reducible refine (C1.out _ (by first | exact G1.out.drew | exact G1.out)).mono ?_); rintro e w2 ⟨rfl, rfl⟩)
      | (go_at_call 78; (with_reducible refine (C2.out _ (by first | exact G1.out.drew | exact G1.out)).mono ?_); rintro e w2 ⟨rfl, rfl⟩))
  all_goals
    go_wp2
    obtain ⟨z0, z1, z2, z3, _⟩ := Box4.put (show Box4 w1 (w.heap.size + 1) (.slice none 0 0) (.slice none 0 0) (.int .i64 0) (.int .i64 0) from ⟨k0, k1, k2, k3, k4, k5, k6, k7⟩) (.slice a n c) (.slice a2 m d) (.int .i64 sf) (.int .i64 sg)
    refine bodyPost_ret (v := .tuple #[.agg #[.slice a n c, .slice a2 m d, .int .i64 sf, .int .i64 sg], .int .i64 0]) (by simp [results, Tryd.results51, go_sem, z0, z1, z2, z3]) rfl ⟨rfl, ?_⟩
    repeat (first | exact G1.out | refine Gr.setCell ?_ (by simp; omega) _ | refine Gr.setCell ?_ (by simp) _ | refine Gr.alloc ?_ _ | refine Gr.drewN ?_ _ | refine Gr.drew ?_)

end Go.Proofs.YtohcnicadbpbbaaDoor
