/- Contracts of chapter 1: the line of the reference. -/
import Derived.Test.YtdlbgelidcfmiaaW14
namespace Go.Proofs.Ytdlbgelidcfmiaa
open Go.RowKit Go.Firn

/-- Two marks. -/
def RetMM (a b c d : Int) (w : World) (e : Ending) (w' : World) : Prop := e = .returned (.tuple #[.agg #[.int .i64 a, .int .i64 b], .agg #[.int .i64 c, .int .i64 d]]) ∧ Gr w w'

set_option maxRecDepth 100000 in
set_option maxHeartbeats 1000000 in
theorem refline_any (a : Option Addr) (n c : Nat) (L T : Nat → Int) (x : Int) (w : World) (hn : n ≤ 9223372036854775807) (hn2 : 2 ≤ n) (hr : RdM w a n L T) :
    Calls Try.prog 71 #[.slice a n c, .int .i64 x] w (RetMM (L (ix (pA L x) n)) (T (ix (pA L x) n)) (L (ix (pA L x) n + 1)) (T (ix (pA L x) n + 1)) w) := by
  obtain ⟨b, o, rfl, hc⟩ := hr.at (k := 0) (by omega)
  have Hc := Lib.hid hc
  clear hc hr
  have g0 : Gr w ((w.alloc (.cells #[.int .i64 0, .int .i64 0] 64)).alloc (.cells #[.int .i64 0, .int .i64 0] 64)) := ((Gr.refl w).alloc _).alloc _
  go_enter Try.func71, Try.ntmps71
  go_wp2_with fail
  go_loopw [6] (fun i wr => ∃ (k : Nat) (v0 v1 v2 v3 : Int), k + 1 ≤ n ∧ i = .int .i64 ((k : Int) + 1) ∧ Gr w wr ∧ Hid (w.heap.size + 1 < wr.heap.size) ∧ Hid (Box2 wr w.heap.size v0 v1) ∧ Hid (Box2 wr (w.heap.size + 1) v2 v3) ∧
      Hid (0 < k → v0 = L (k - 1) ∧ v1 = T (k - 1) ∧ v2 = L k ∧ v3 = T k) ∧ Hid ((k ≤ n - 2 → ixf (pA L x) (n - 2 - k) k = ix (pA L x) n) ∧ (k = n - 1 → ix (pA L x) n = n - 2))) (fun i _ => n - (intOf i).toNat)
  case atStart =>
    refine ⟨0, 0, 0, 0, 0, by omega, rfl, g0, ?_, ?_, ?_, fun h => by omega, fun _ => rfl, fun h => by omega⟩
    · show _ < _; simp
    · exact (Box2.new rfl).gr ((Gr.refl _).alloc _)
    · exact Box2.new (by simp)
  case round =>
    obtain ⟨k, v0, v1, v2, v3, hk, rfl, hg, hz, B0, B1, Hv, Hi⟩ := hrel
    obtain ⟨s0, s1, f0, f1⟩ := B0.out
    obtain ⟨s2, s3, f2, f3⟩ := B1.out
    have hz1 := hz.out
    by_cases hlt : k + 1 < n
    · have c1 := hg.cell (Hc.out k (by omega)).1
      have c2 := hg.cell (Hc.out k (by omega)).2
      have c3 := hg.cell (Hc.out (k + 1) (by omega)).1
      have c4 := hg.cell (Hc.out (k + 1) (by omega)).2
      have i0 : (0 : Int) ≤ (k : Int) := by omega
      have i1 : (0 : Int) ≤ (k : Int) + 1 := by omega
      have i2 : (k : Int) + 1 < n := by omega
      have i3 : ((k : Int) + 1).toNat = k + 1 := by omega
      have i4 : (k : Int) < n := by omega
      have i5 : IntKind.i64.wrap (k : Int) = (k : Int) := IntWalk.i64_in _ (by omega)
      by_cases ht : x < L (k + 1)
      · go_wp2_with fail
        go_region
        all_goals go_wp2_with fail
        have P0 := ((B0.out.put (x' := L k) (y' := T k)).far (b' := w.heap.size + 1) (by omega) (.int .i64 (L (k + 1))) (.int .i64 (T (k + 1)))).drew
        have P1 := ((B1.out.far (b' := w.heap.size) (by omega) (.int .i64 (L k)) (.int .i64 (T k))).put (x' := L (k + 1)) (y' := T (k + 1))).drew
        have G : Gr w (((((wr.setCell ⟨w.heap.size, 0, none⟩ (.int .i64 (L k))).setCell ⟨w.heap.size, 1, none⟩ (.int .i64 (T k))).setCell ⟨w.heap.size + 1, 0, none⟩ (.int .i64 (L (k + 1)))).setCell ⟨w.heap.size + 1, 1, none⟩ (.int .i64 (T (k + 1)))).drew) := by
          repeat (first | exact hg | refine Gr.drew ?_ | refine Gr.setAt ?_ (by omega) _)
        have Z : w.heap.size + 1 < (((((wr.setCell ⟨w.heap.size, 0, none⟩ (.int .i64 (L k))).setCell ⟨w.heap.size, 1, none⟩ (.int .i64 (T k))).setCell ⟨w.heap.size + 1, 0, none⟩ (.int .i64 (L (k + 1)))).setCell ⟨w.heap.size + 1, 1, none⟩ (.int .i64 (T (k + 1)))).drew).heap.size := by simpa using hz1
        generalize ((((wr.setCell ⟨w.heap.size, 0, none⟩ (.int .i64 (L k))).setCell ⟨w.heap.size, 1, none⟩ (.int .i64 (T k))).setCell ⟨w.heap.size + 1, 0, none⟩ (.int .i64 (L (k + 1)))).setCell ⟨w.heap.size + 1, 1, none⟩ (.int .i64 (T (k + 1)))).drew = w2 at *
        clear s0 s1 s2 s3 f0 f1 f2 f3 c1 c2 c3 c4
        obtain ⟨s0, s1, f0, f1⟩ := P0
        obtain ⟨s2, s3, f2, f3⟩ := P1
        go_region
        all_goals go_wp2_with fail
        have E := Lib.hid (show ix (pA L x) n = k by
          have h := Hi.out.1 (by omega)
          rw [← h]
          by_cases hk2 : k = n - 2
          · rw [hk2, Nat.sub_self, ixf]
          · rw [show n - 2 - k = (n - 2 - (k + 1)) + 1 by omega, ixf, if_neg]
            simp [pA]; omega)
        rw [E.out]
        refine bodyPost_ret (v := .tuple #[.agg #[.int .i64 (L k), .int .i64 (T k)], .agg #[.int .i64 (L (k + 1)), .int .i64 (T (k + 1))]]) (by simp [results, Try.results71, go_sem, *]) rfl ⟨rfl, ?_⟩
        repeat (first | exact G | refine Gr.drew ?_ | refine Gr.setAt ?_ (by omega) _)
      · go_wp2_with fail
        go_region
        all_goals go_wp2_with fail
        go_roundw
        case rel =>
          refine ⟨k + 1, L k, T k, L (k + 1), T (k + 1), by omega, by go_num, ?_, ?_, ?_, ?_, fun _ => ⟨rfl, rfl, rfl, rfl⟩, fun h => ?_, fun h => ?_⟩
          · repeat (first | exact hg | refine Gr.drew ?_ | refine Gr.setAt ?_ (by omega) _)
          · show _ < _; simpa using hz1
          · exact ((B0.out.put (x' := L k) (y' := T k)).far (b' := w.heap.size + 1) (by omega) (.int .i64 (L (k + 1))) (.int .i64 (T (k + 1)))).drew
          · exact ((B1.out.far (b' := w.heap.size) (by omega) (.int .i64 (L k)) (.int .i64 (T k))).put (x' := L (k + 1)) (y' := T (k + 1))).drew
          · have h2 := Hi.out.1 (by omega)
            rw [show n - 2 - k = (n - 2 - (k + 1)) + 1 by omega, ixf, if_pos (by simp [pA]; omega)] at h2
            exact h2
          · have h2 := Hi.out.1 (by omega)
            rw [show n - 2 - k = 0 by omega, ixf] at h2
            omega
        case measure => simp [intOf]; omega
    · have hk1 : k + 1 = n := by omega
      obtain ⟨rfl, rfl, rfl, rfl⟩ := Hv.out (by omega)
      have E := Lib.hid (show ix (pA L x) n = k - 1 by have := Hi.out.2 (by omega); omega)
      have E2 := Lib.hid (show k - 1 + 1 = k by omega)
      have i2 : ¬ (k : Int) + 1 < n := by omega
      go_wp2_with fail
      go_region
      all_goals go_wp2_with fail
      rw [E.out, E2.out]
      refine bodyPost_ret (v := .tuple #[.agg #[.int .i64 (L (k - 1)), .int .i64 (T (k - 1))], .agg #[.int .i64 (L k), .int .i64 (T k)]]) (by simp [results, Try.results71, go_sem, *]) rfl ⟨rfl, ?_⟩
      repeat (first | exact hg | refine Gr.drew ?_ | refine Gr.setAt ?_ (by omega) _)

end Go.Proofs.Ytdlbgelidcfmiaa
