/- Contracts of chapter 7: the swapped odds, the odds of two observations; which lists and which odds are the same. -/
import Derived.Test.YtohcnicadbpbbaaWN
import Derived.Test.YtohcnicadbpbbaaWP
import Derived.Deep.AppendSrc
namespace Go.Proofs.Ytohcnicadbpbbaa
open Go.RowKit Go.Firn

theorem ints_at (f : Nat → Int) {n j : Nat} {u : Value} (h : (ints n f)[j]? = some u) : j < n ∧ u = .int .i64 (f j) := by
  unfold ints at h
  rw [List.getElem?_map] at h
  by_cases hj : j < n
  · rw [List.getElem?_range hj] at h
    simp at h
    exact ⟨hj, h.symm⟩
  · rw [List.getElem?_eq_none (by simp; omega)] at h
    simp at h
theorem ints_len (n : Nat) (f : Nat → Int) : (ints n f).length = n := by unfold ints; simp
/-- append of all onto nothing: a new row. -/
theorem run_catI {w : World} {b m c2 ty : Nat} {a2 : Option Addr} {f : Nat → Int} (h2 : RdI w a2 m f) (hm : 0 < m ∧ m ≤ 1000) :
    ∃ cap w', (Builtin.append_ #[22, 22] ty #[.slice (some ⟨b, 0, none⟩) 0 0, .slice a2 m c2]).run Try.prog w = .ok (.slice (some ⟨w.heap.size, 0, none⟩) m cap) w' ∧ m ≤ cap ∧ cap ≤ maxLen ∧ Gr w w' ∧ RdI w' (some ⟨w.heap.size, 0, none⟩) m f := by
  obtain ⟨i, hi, hz, hs, hby⟩ := info_int Try.info3
  obtain ⟨b2, o2, rfl, hc⟩ := h2.at hm.1
  have src : Src Try.prog i.size 22 (.slice (some ⟨b2, o2, none⟩) m c2) m (ints m f) w := Src.ofSlice w Try.underlying22 _ _ _ _ (by rw [ints_len, hs, Nat.mul_one]) (fun j u hu => by
    obtain ⟨hj, rfl⟩ := ints_at f hu
    rw [add_flat rfl]
    exact hc j hj) (fun u hu => by
    unfold ints at hu
    obtain ⟨x, _, rfl⟩ := List.mem_map.1 hu
    rfl)
  have old : (Builtin.firstCells i.size 0 (.slice (some ⟨b, 0, none⟩) 0 0)).run Try.prog w.drew = .ok ([] : List Value).toArray w.drew := run_firstCells_some _ _ _ _ _ _ _ (by simp) (fun j u hu => by simp at hu)
  have hnc : Builtin.nextslicecap (0 + m) 0 * i.bytes ≤ 281474976710656 := by
    rw [hby]
    have : Builtin.nextslicecap (0 + m) 0 ≤ 4 * 100000 + 1000000 := by
      unfold Builtin.nextslicecap
      split
      · omega
      · split
        · omega
        · omega
    omega
  have run := run_append_grow_src (P := Try.prog) w 22 22 ty 3 i _ Try.underlying22 hi hz (some ⟨b, 0, none⟩) 0 0 [] old (.slice (some ⟨b2, o2, none⟩) m c2) m (ints m f) src (by omega) (by omega) hnc
  rw [Nat.zero_add] at run
  refine ⟨_, _, run, Nat.zero_add m ▸ grownCap_ge _ _ _ _, grownCap_le_maxLen _ _ _ _ (by unfold maxLen; omega), ((Gr.refl w).drew).alloc _, .inr ⟨w.heap.size, 0, rfl, fun j hj => ?_⟩⟩
  rw [Nat.zero_add]
  refine ((Gr.refl _).fresh' (b := w.heap.size) (j := j) (v := .int .i64 (f j)) (by simp) ?_).1
  rw [Array.getElem?_append_left (by simp [ints_len]; omega)]
  simp [ints, hj]
theorem wpIn_run {F : Fence} {n : Nat} {P : Program} {o : Oper} {a : Act} {K : Act → World → Prop} {Q : Exit → Act → World → Prop} (s x : Operand) (t : TypeId) (ho : o.op = .call { callee := .builtin .append, args := #[s, x], argTypes := #[t, t] })
    {w w' : World} {u v r : Value} (hs : a.eval s = u) (hx : a.eval x = v) (hrun : (Builtin.append_ #[t, t] o.type #[u, v]).run P w = .ok r w') (h : K (a.put o.dst r) w') : o.wpIn F n P a w K Q := by
  unfold Oper.wpIn
  refine ⟨?_, ?_⟩
  · simp [Oper.about, ho, resolve, Target.leads, Sem.run_pure]
  · rw [Oper.semAt_plain F _ _ (by rw [ho]; intro c hc'; cases hc')]
    simp [execOp, ho, resolve, invoke, builtin, hs, hx, hrun, Result.andThen]
    exact h

theorem CloneI_any (a : Option Addr) (n c : Nat) (f : Nat → Int) (w : World) (hn : 0 < n ∧ n ≤ 1000) (hr : RdI w a n f) : Calls Try.prog 58 #[.slice a n c] w (RetI1 n f w) :=
  (Clone_any a n c f w hn hr).mono fun _ _ ⟨_, _, h1, h2, h3, h4, h5, _⟩ => ⟨_, _, h1, h2, h3, h4.rd, h5⟩

set_option maxHeartbeats 4000000 in
set_option maxRecDepth 100000 in
theorem SameInts_any (a a' : Option Addr) (n c c' : Nat) (f : Nat → Int) (w : World) (hn : n ≤ 1000) (hr : RdI w a n f) (hr' : RdI w a' n f) :
    Calls Try.prog 57 #[.slice a n c, .slice a' n c'] w (RetB true w) := by
  go_enter Try.func57, Try.ntmps57
  go_wp2_with fail
  go_loopw [5, 13] (fun _ i wr => ∃ k : Nat, k ≤ n ∧ i = .int .i64 k ∧ Hid (Gr w wr)) (fun _ i _ => n - (intOf i).toNat)
  case atStart => exact ⟨0, by omega, rfl, Lib.hid (by first | exact Gr.refl _ | exact (Gr.refl _).drew)⟩
  case round =>
    obtain ⟨k, hk, rfl, HG⟩ := hrel
    by_cases hlt : k < n
    · obtain ⟨b, o, rfl, hc⟩ := hr.at hlt
      obtain ⟨b', o', rfl, hc'⟩ := hr'.at hlt
      have hck := HG.out.cell (hc k hlt)
      have hck' := HG.out.cell (hc' k hlt)
      clear hc hr hc' hr'
      have i3 : (0 : Int) ≤ (k : Int) := by omega
      have i4 : (k : Int) < n := by omega
      go_wp2_with fail
      go_quiet (fail)
      go_wp2_with fail
      go_roundw
      case rel => exact ⟨k + 1, by omega, by go_num, Lib.hid (HG.out.drewN _)⟩
      case measure => simp [intOf]; omega
    · have hnl : ¬ (k : Int) < n := by omega
      go_wp2_with fail
      go_ret
      exact ⟨rfl, HG.out⟩

set_option maxHeartbeats 4000000 in
set_option maxRecDepth 100000 in
theorem Same_any (a a2 a' a2' : Option Addr) (n m c d c' d' : Nat) (f g : Nat → Int) (w : World) (hn : n ≤ 1000) (hm : m ≤ 1000) (hr : RdI w a n f) (hs : RdI w a2 m g) (hr' : RdI w a' n f) (hs' : RdI w a2' m g) :
    Calls Try.prog 28 #[.agg #[.slice a n c, .slice a2 m d], .agg #[.slice a' n c', .slice a2' m d']] w (RetB true w) := by
  obtain ⟨W0, hW0⟩ : ∃ W0, (w.alloc (.cells #[.slice a n c, .slice a2 m d] 24)).alloc (.cells #[.slice a' n c', .slice a2' m d'] 24) = W0 := ⟨_, rfl⟩
  have G0 := Lib.hid (show Gr w W0 by rw [← hW0]; exact ((Gr.refl w).alloc _).alloc _)
  have B1 := Lib.hid (show BoxO W0 w.heap.size (.slice a n c) (.slice a2 m d) by rw [← hW0]; exact (BoxO.new rfl).gr ((Gr.refl _).alloc _))
  have B2 := Lib.hid (show BoxO W0 (w.heap.size + 1) (.slice a' n c') (.slice a2' m d') by rw [← hW0]; exact BoxO.new (by simp))
  have C1 := Lib.hid (fun w1 (k : Gr w w1) => SameInts_any a a' n c c' f w1 hn (hr.gr k) (hr'.gr k))
  have C2 := Lib.hid (fun w1 (k : Gr w w1) => SameInts_any a2 a2' m d d' g w1 hm (hs.gr k) (hs'.gr k))
  obtain ⟨p0, p1⟩ := B1.out
  obtain ⟨r0, r1⟩ := B2.out
  clear hr hs hr' hs'
  go_enter Try.func28, Try.ntmps28
  go_wp2_with (first
    | (go_at_call 57; (with_reducible refine (C1.out _ G0.out).mono ?_); rintro e w1 ⟨rfl, g1⟩; have G1 := Lib.hid (G0.out.trans g1); have B1x := Lib.hid (B1.out.gr g1); have B2x := Lib.hid (B2.out.gr g1); clear p0 p1 r0 r1; obtain ⟨p0, p1⟩ := B1x.out; obtain ⟨r0, r1⟩ := B2x.out; clear g1)
    | (go_at_call 57; (with_reducible refine (C2.out _ G1.out).mono ?_); rintro e w2 ⟨rfl, g2⟩; have G2 := Lib.hid (G1.out.trans g2); clear g2))
  go_ret
  exact ⟨rfl, G2.out⟩

set_option maxHeartbeats 4000000 in
set_option maxRecDepth 100000 in
theorem Swapped_no (a a2 : Option Addr) (n c m d : Nat) (f g : Nat → Int) (w : World) (hn : n ≤ 1000) (hm : m ≤ 1000) (hr : RdI w a n f) (hs : RdI w a2 m g) (hv : vO n m f g = false) :
    Calls Try.prog 29 #[.agg #[.slice a n c, .slice a2 m d]] w (RetD 0 0 (fun _ => 0) (fun _ => 0) 70 w) := by
  obtain ⟨W0, hW0⟩ : ∃ W0, (w.alloc (.cells #[.slice a n c, .slice a2 m d] 24)).alloc (.cells #[.slice none 0 0, .slice none 0 0] 24) = W0 := ⟨_, rfl⟩
  have G0 := Lib.hid (show Gr w W0 by rw [← hW0]; exact ((Gr.refl w).alloc _).alloc _)
  have B1 := Lib.hid (show BoxO W0 w.heap.size (.slice a n c) (.slice a2 m d) by rw [← hW0]; exact (BoxO.new rfl).gr ((Gr.refl _).alloc _))
  have B2 := Lib.hid (show Box2v W0 (w.heap.size + 1) (.slice none 0 0) (.slice none 0 0) by rw [← hW0]; exact Box2v.new (by simp))
  obtain ⟨p0, p1⟩ := B1.out
  have C := Lib.hid (fun w' (k : Gr w w') => Valid_any a a2 n c m d f g w' hn hm (hr.gr k) (hs.gr k))
  rw [hv] at C
  clear hr hs hv
  go_enter Try.func29, Try.ntmps29
  go_wp2_with (go_at_call 14; (with_reducible refine (C.out _ G0.out).mono ?_); rintro e W1 ⟨rfl, g1⟩; have G1 := Lib.hid (G0.out.trans g1); have B2x := Lib.hid (B2.out.gr g1); have B1x := Lib.hid (B1.out.gr g1); clear p0 p1; obtain ⟨p0, p1⟩ := B1x.out; obtain ⟨k0, k1, k2, k3⟩ := B2x.out; clear g1)
  obtain ⟨z0, z1, _⟩ := (show Box2v (W1) (w.heap.size + 1) (.slice none 0 0) (.slice none 0 0) from ⟨k0, k1, k2, k3⟩).put (.slice none 0 0) (.slice none 0 0)
  refine bodyPost_ret (v := .tuple #[.agg #[.slice none 0 0, .slice none 0 0], .int .i64 70]) (by simp [results, Try.results29, go_sem, z0, z1]) rfl (RetD.no 70 ?_)
  repeat (first | exact G1.out | refine Gr.setCell ?_ (by simp; omega) _ | refine Gr.setCell ?_ (by simp) _ | refine Gr.alloc ?_ _ | refine Gr.drewN ?_ _ | refine Gr.drew ?_)

set_option maxHeartbeats 4000000 in
set_option maxRecDepth 100000 in
theorem Swapped_ok (a a2 : Option Addr) (n c d : Nat) (f g : Nat → Int) (w : World) (hr : RdI w a n f) (hs : RdI w a2 n g) (hv : VO n n f g) :
    Calls Try.prog 29 #[.agg #[.slice a n c, .slice a2 n d]] w (RetD n n g f 0 w) := by
  have hn := hv.noise.few
  have hn1 : 0 < n ∧ n ≤ 1000 := ⟨hv.noise.one, by omega⟩
  obtain ⟨W0, hW0⟩ : ∃ W0, (w.alloc (.cells #[.slice a n c, .slice a2 n d] 24)).alloc (.cells #[.slice none 0 0, .slice none 0 0] 24) = W0 := ⟨_, rfl⟩
  have G0 := Lib.hid (show Gr w W0 by rw [← hW0]; exact ((Gr.refl w).alloc _).alloc _)
  have B1 := Lib.hid (show BoxO W0 w.heap.size (.slice a n c) (.slice a2 n d) by rw [← hW0]; exact (BoxO.new rfl).gr ((Gr.refl _).alloc _))
  have B2 := Lib.hid (show Box2v W0 (w.heap.size + 1) (.slice none 0 0) (.slice none 0 0) by rw [← hW0]; exact Box2v.new (by simp))
  obtain ⟨p0, p1⟩ := B1.out
  have C := Lib.hid (fun w' (k : Gr w w') => Valid_any a a2 n c n d f g w' (by omega) (by omega) (hr.gr k) (hs.gr k))
  rw [vO_iff.2 hv] at C
  have CM1 := Lib.hid (fun w' (k : Gr w w') => CloneI_any a n c f w' hn1 (hr.gr k))
  have CM2 := Lib.hid (fun w' (k : Gr w w') => CloneI_any a2 n d g w' hn1 (hs.gr k))
  clear hr hs hv
  go_enter Try.func29, Try.ntmps29
  go_wp2_with (go_at_call 14; (with_reducible refine (C.out _ G0.out).mono ?_); rintro e W1 ⟨rfl, g1⟩; have G1 := Lib.hid (G0.out.trans g1); have B2x := Lib.hid (B2.out.gr g1); have B1x := Lib.hid (B1.out.gr g1); clear p0 p1; obtain ⟨p0, p1⟩ := B1x.out; obtain ⟨k0, k1, k2, k3⟩ := B2x.out; clear g1)
  refine (wpIn_wide (n := 3)).1 ?_
  refine wpIn_region_held (fun w' => w'.cell? ⟨w.heap.size, 0, none⟩ = some (.slice a n c) ∧ w'.cell? ⟨w.heap.size, 1, none⟩ = some (.slice a2 n d) ∧ Gr w w') 9 (by kernel_rfl) rfl rfl ?_
  have hS : W1.drew.cell? ⟨w.heap.size, 0, none⟩ = some (.slice a n c) ∧ W1.drew.cell? ⟨w.heap.size, 1, none⟩ = some (.slice a2 n d) ∧ Gr w W1.drew := ⟨p0, p1, G1.out.drew⟩
  have BY := Lib.hid (B2x.out.gr ((Gr.refl _).drew))
  iterate 4 (first
    | (refine wpAnyHIn_take 0 (v := ?_) rfl (by kernel_rfl) (by kernel_rfl) (by kernel_rfl) (by decide +kernel) (fun _ _ _ h => h) (fun _ _ _ => trivial) (by rfl) (fun w' hSw => ?_) hS ?_; rotate_left 1; (focus (have z0 := hSw.1; have z1 := hSw.2.1; go_simp; try with_reducible rfl)); simp only [Act.put, List.setIfInBounds_toArray, List.set_cons_zero, List.set_cons_succ])
    | (refine wpAnyHIn_take 1 (v := ?_) rfl (by kernel_rfl) (by kernel_rfl) (by kernel_rfl) (by decide +kernel) (fun _ _ _ h => h) (fun _ _ _ => trivial) (by rfl) (fun w' hSw => ?_) hS ?_; rotate_left 1; (focus (have z0 := hSw.1; have z1 := hSw.2.1; go_simp; try with_reducible rfl)); simp only [Act.put, List.setIfInBounds_toArray, List.set_cons_zero, List.set_cons_succ])
    | (refine wpAnyHIn_take 3 (v := ?_) rfl (by kernel_rfl) (by kernel_rfl) (by kernel_rfl) (by decide +kernel) (fun _ _ _ h => h) (fun _ _ _ => trivial) (by rfl) (fun w' hSw => ?_) hS ?_; rotate_left 1; (focus (have z0 := hSw.1; have z1 := hSw.2.1; go_simp; try with_reducible rfl)); simp only [Act.put, List.setIfInBounds_toArray, List.set_cons_zero, List.set_cons_succ])
    | (refine wpAnyHIn_take 4 (v := ?_) rfl (by kernel_rfl) (by kernel_rfl) (by kernel_rfl) (by decide +kernel) (fun _ _ _ h => h) (fun _ _ _ => trivial) (by rfl) (fun w' hSw => ?_) hS ?_; rotate_left 1; (focus (have z0 := hSw.1; have z1 := hSw.2.1; go_simp; try with_reducible rfl)); simp only [Act.put, List.setIfInBounds_toArray, List.set_cons_zero, List.set_cons_succ]))
  refine wpAnyHIn_ready [2] (by kernel_rfl) (by simp) ?_
  refine AllHIn.cons rfl (by rfl) (fun K hK => ?_) AllHIn.nil
  go_simp
  refine ⟨trivial, ?_⟩
  refine (callsIn_wide.2 (CM2.out _ hS.2.2)).mono ?_
  rintro e wX ⟨awX, cwX, rfl, _, _, rdwX, gX⟩
  have hS : wX.cell? ⟨w.heap.size, 0, none⟩ = some (.slice a n c) ∧ wX.cell? ⟨w.heap.size, 1, none⟩ = some (.slice a2 n d) ∧ Gr w wX := ⟨gX.cell hS.1, gX.cell hS.2.1, hS.2.2.trans gX⟩
  have BY := Lib.hid (BY.out.gr gX)
  refine hK.out _ _ hS ?_
  clear hK K gX
  refine wpAnyHIn_ready [5] (by kernel_rfl) (by simp) ?_
  refine AllHIn.cons rfl (by rfl) (fun K hK => ?_) AllHIn.nil
  go_simp
  refine ⟨trivial, ?_⟩
  refine (callsIn_wide.2 (CM1.out _ hS.2.2)).mono ?_
  rintro e wY ⟨awY, cwY, rfl, _, _, rdwY, gX⟩
  have hS : wY.cell? ⟨w.heap.size, 0, none⟩ = some (.slice a n c) ∧ wY.cell? ⟨w.heap.size, 1, none⟩ = some (.slice a2 n d) ∧ Gr w wY := ⟨gX.cell hS.1, gX.cell hS.2.1, hS.2.2.trans gX⟩
  have BY := Lib.hid (BY.out.gr gX)
  have RX := Lib.hid (rdwX.gr gX)
  refine hK.out _ _ hS ?_
  clear hK K gX
  iterate 1 (first
    | (refine wpAnyHIn_take 6 (v := ?_) rfl (by kernel_rfl) (by kernel_rfl) (by kernel_rfl) (by decide +kernel) (fun _ _ _ h => h) (fun _ _ _ => trivial) (by rfl) (fun w' hSw => ?_) hS ?_; rotate_left 1; (focus (skip; go_simp; try with_reducible rfl)); simp only [Act.put, List.setIfInBounds_toArray, List.set_cons_zero, List.set_cons_succ]))
  refine wpAnyHIn_ready [7] (by kernel_rfl) (by simp) ?_
  refine AllHIn.cons rfl (by rfl) (fun K hK => ?_) AllHIn.nil
  obtain ⟨k0, k1, k2, k3⟩ := BY.out
  have k5 := cell_by (k := 0) k1 (by omega) (Value.slice awX n cwX)
  go_simp
  obtain ⟨WZ, hWZ⟩ : ∃ WZ, (wY.setCell ⟨w.heap.size + 1, 0, none⟩ (.slice awX n cwX)).setCell ⟨w.heap.size + 1, 1, none⟩ (.slice awY n cwY) = WZ := ⟨_, rfl⟩
  have hS : WZ.cell? ⟨w.heap.size, 0, none⟩ = some (.slice a n c) ∧ WZ.cell? ⟨w.heap.size, 1, none⟩ = some (.slice a2 n d) ∧ Gr w WZ := by rw [← hWZ]; exact ⟨cell_far (cell_far hS.1 (by omega) _) (by omega) _, cell_far (cell_far hS.2.1 (by omega) _) (by omega) _, (hS.2.2.setAt (by omega) _).setAt (by omega) _⟩
  have BZ := Lib.hid (show Box2v WZ (w.heap.size + 1) (.slice awX n cwX) (.slice awY n cwY) by rw [← hWZ]; exact Box2v.put BY.out _ _)
  have RX2 := Lib.hid (show RdI WZ awX n g by rw [← hWZ]; exact RX.out.put BY.out _ _)
  have RY2 := Lib.hid (show RdI WZ awY n f by rw [← hWZ]; exact rdwY.put BY.out _ _)
  simp only [hWZ]
  refine hK.out _ _ hS ?_
  clear hK K
  iterate 1 (first
    | (refine wpAnyHIn_take 8 (v := ?_) rfl (by kernel_rfl) (by kernel_rfl) (by kernel_rfl) (by decide +kernel) (fun _ _ _ h => h) (fun _ _ _ => trivial) (by rfl) (fun w' hSw => ?_) hS ?_; rotate_left 1; (focus (skip; go_simp; try with_reducible rfl)); simp only [Act.put, List.setIfInBounds_toArray, List.set_cons_zero, List.set_cons_succ]))
  refine wpAnyHIn_done (by kernel_rfl) ?_ _
  obtain ⟨z0, z1, _⟩ := BZ.out
  go_wp2_with fail
  refine bodyPost_ret (v := .tuple #[.agg #[.slice awX n cwX, .slice awY n cwY], .int .i64 0]) (by simp [results, Try.results29, go_sem, z0, z1]) rfl ⟨_, _, _, _, rfl, RX2.out, RY2.out, hS.2.2⟩

set_option maxHeartbeats 4000000 in
set_option maxRecDepth 100000 in
theorem refSwapped_no (a a2 : Option Addr) (n c m d : Nat) (f g : Nat → Int) (w : World) (hn : n ≤ 1000) (hm : m ≤ 1000) (hr : RdI w a n f) (hs : RdI w a2 m g) (hv : vO n m f g = false) :
    Calls Try.prog 30 #[.agg #[.slice a n c, .slice a2 m d]] w (RetD 0 0 (fun _ => 0) (fun _ => 0) 70 w) := by
  obtain ⟨W0, hW0⟩ : ∃ W0, (w.alloc (.cells #[.slice a n c, .slice a2 m d] 24)).alloc (.cells #[.slice none 0 0, .slice none 0 0] 24) = W0 := ⟨_, rfl⟩
  have G0 := Lib.hid (show Gr w W0 by rw [← hW0]; exact ((Gr.refl w).alloc _).alloc _)
  have B1 := Lib.hid (show BoxO W0 w.heap.size (.slice a n c) (.slice a2 m d) by rw [← hW0]; exact (BoxO.new rfl).gr ((Gr.refl _).alloc _))
  have B2 := Lib.hid (show Box2v W0 (w.heap.size + 1) (.slice none 0 0) (.slice none 0 0) by rw [← hW0]; exact Box2v.new (by simp))
  obtain ⟨p0, p1⟩ := B1.out
  have C := Lib.hid (fun w' (k : Gr w w') => refValid_any a a2 n c m d f g w' hn hm (hr.gr k) (hs.gr k))
  rw [hv] at C
  clear hr hs hv
  go_enter Try.func30, Try.ntmps30
  go_wp2_with (go_at_call 15; (with_reducible refine (C.out _ G0.out).mono ?_); rintro e W1 ⟨rfl, g1⟩; have G1 := Lib.hid (G0.out.trans g1); have B2x := Lib.hid (B2.out.gr g1); have B1x := Lib.hid (B1.out.gr g1); clear p0 p1; obtain ⟨p0, p1⟩ := B1x.out; obtain ⟨k0, k1, k2, k3⟩ := B2x.out; clear g1)
  obtain ⟨z0, z1, _⟩ := (show Box2v (W1) (w.heap.size + 1) (.slice none 0 0) (.slice none 0 0) from ⟨k0, k1, k2, k3⟩).put (.slice none 0 0) (.slice none 0 0)
  refine bodyPost_ret (v := .tuple #[.agg #[.slice none 0 0, .slice none 0 0], .int .i64 70]) (by simp [results, Try.results30, go_sem, z0, z1]) rfl (RetD.no 70 ?_)
  repeat (first | exact G1.out | refine Gr.setCell ?_ (by simp; omega) _ | refine Gr.setCell ?_ (by simp) _ | refine Gr.alloc ?_ _ | refine Gr.drewN ?_ _ | refine Gr.drew ?_)

set_option maxHeartbeats 4000000 in
set_option maxRecDepth 100000 in
theorem refSwapped_ok (a a2 : Option Addr) (n c d : Nat) (f g : Nat → Int) (w : World) (hr : RdI w a n f) (hs : RdI w a2 n g) (hv : VO n n f g) :
    Calls Try.prog 30 #[.agg #[.slice a n c, .slice a2 n d]] w (RetD n n g f 0 w) := by
  have hn := hv.noise.few
  have hn1 : 0 < n ∧ n ≤ 1000 := ⟨hv.noise.one, by omega⟩
  obtain ⟨W0, hW0⟩ : ∃ W0, (w.alloc (.cells #[.slice a n c, .slice a2 n d] 24)).alloc (.cells #[.slice none 0 0, .slice none 0 0] 24) = W0 := ⟨_, rfl⟩
  have G0 := Lib.hid (show Gr w W0 by rw [← hW0]; exact ((Gr.refl w).alloc _).alloc _)
  have B1 := Lib.hid (show BoxO W0 w.heap.size (.slice a n c) (.slice a2 n d) by rw [← hW0]; exact (BoxO.new rfl).gr ((Gr.refl _).alloc _))
  have B2 := Lib.hid (show Box2v W0 (w.heap.size + 1) (.slice none 0 0) (.slice none 0 0) by rw [← hW0]; exact Box2v.new (by simp))
  obtain ⟨p0, p1⟩ := B1.out
  have C := Lib.hid (fun w' (k : Gr w w') => refValid_any a a2 n c n d f g w' (by omega) (by omega) (hr.gr k) (hs.gr k))
  rw [vO_iff.2 hv] at C
  have hr0 := Lib.hid hr
  have hs0 := Lib.hid hs
  clear hr hs hv
  go_enter Try.func30, Try.ntmps30
  go_wp2_with (go_at_call 15; (with_reducible refine (C.out _ G0.out).mono ?_); rintro e W1 ⟨rfl, g1⟩; have G1 := Lib.hid (G0.out.trans g1); have B2x := Lib.hid (B2.out.gr g1); have B1x := Lib.hid (B1.out.gr g1); clear p0 p1; obtain ⟨p0, p1⟩ := B1x.out; obtain ⟨k0, k1, k2, k3⟩ := B2x.out; clear g1)
  refine (wpIn_wide (n := 3)).1 ?_
  refine wpIn_region_held (fun w' => w'.cell? ⟨w.heap.size, 0, none⟩ = some (.slice a n c) ∧ w'.cell? ⟨w.heap.size, 1, none⟩ = some (.slice a2 n d) ∧ Gr w w') 11 (by kernel_rfl) rfl rfl ?_
  have hS : W1.drew.cell? ⟨w.heap.size, 0, none⟩ = some (.slice a n c) ∧ W1.drew.cell? ⟨w.heap.size, 1, none⟩ = some (.slice a2 n d) ∧ Gr w W1.drew := ⟨p0, p1, G1.out.drew⟩
  have BY := Lib.hid (B2x.out.gr ((Gr.refl _).drew))
  obtain ⟨WD, hWD⟩ : ∃ WD, W1.drew = WD := ⟨_, rfl⟩
  rw [hWD] at hS BY ⊢
  clear hWD
  iterate 4 (first
    | (refine wpAnyHIn_take 1 (v := ?_) rfl (by kernel_rfl) (by kernel_rfl) (by kernel_rfl) (by decide +kernel) (fun _ _ _ h => h) (fun _ _ _ => trivial) (by rfl) (fun w' hSw => ?_) hS ?_; rotate_left 1; (focus (have z0 := hSw.1; have z1 := hSw.2.1; go_simp; try with_reducible rfl)); simp only [Act.put, List.setIfInBounds_toArray, List.set_cons_zero, List.set_cons_succ])
    | (refine wpAnyHIn_take 2 (v := ?_) rfl (by kernel_rfl) (by kernel_rfl) (by kernel_rfl) (by decide +kernel) (fun _ _ _ h => h) (fun _ _ _ => trivial) (by rfl) (fun w' hSw => ?_) hS ?_; rotate_left 1; (focus (have z0 := hSw.1; have z1 := hSw.2.1; go_simp; try with_reducible rfl)); simp only [Act.put, List.setIfInBounds_toArray, List.set_cons_zero, List.set_cons_succ])
    | (refine wpAnyHIn_take 5 (v := ?_) rfl (by kernel_rfl) (by kernel_rfl) (by kernel_rfl) (by decide +kernel) (fun _ _ _ h => h) (fun _ _ _ => trivial) (by rfl) (fun w' hSw => ?_) hS ?_; rotate_left 1; (focus (have z0 := hSw.1; have z1 := hSw.2.1; go_simp; try with_reducible rfl)); simp only [Act.put, List.setIfInBounds_toArray, List.set_cons_zero, List.set_cons_succ])
    | (refine wpAnyHIn_take 6 (v := ?_) rfl (by kernel_rfl) (by kernel_rfl) (by kernel_rfl) (by decide +kernel) (fun _ _ _ h => h) (fun _ _ _ => trivial) (by rfl) (fun w' hSw => ?_) hS ?_; rotate_left 1; (focus (have z0 := hSw.1; have z1 := hSw.2.1; go_simp; try with_reducible rfl)); simp only [Act.put, List.setIfInBounds_toArray, List.set_cons_zero, List.set_cons_succ]))
  refine wpAnyHIn_ready [0, 4] (by kernel_rfl) (by simp) ?_
  refine AllHIn.cons rfl (by rfl) (fun K hK => ?_) (AllHIn.cons rfl (by rfl) (fun K hK => ?_) (AllHIn.nil))
  · go_simp
    have gX := (Gr.refl WD).alloc (.cells #[] 3)
    have hS : (WD.alloc (.cells #[] 3)).cell? ⟨w.heap.size, 0, none⟩ = some (.slice a n c) ∧ (WD.alloc (.cells #[] 3)).cell? ⟨w.heap.size, 1, none⟩ = some (.slice a2 n d) ∧ Gr w (WD.alloc (.cells #[] 3)) := ⟨gX.cell hS.1, gX.cell hS.2.1, hS.2.2.trans gX⟩
    have BY := Lib.hid (BY.out.gr gX)
    refine hK.out _ _ hS ?_
    clear hK K gX
    obtain ⟨wa0, hwa0⟩ : ∃ wa, WD.alloc (.cells #[] 3) = wa := ⟨_, rfl⟩
    have hb0 : WD.heap.size = WD.heap.size := rfl
    rw [hwa0] at hS BY ⊢
    refine wpAnyHIn_ready [3, 4] (by kernel_rfl) (by simp) ?_
    refine AllHIn.cons rfl (by rfl) (fun K hK => ?_) (AllHIn.cons rfl (by rfl) (fun K hK => ?_) (AllHIn.nil))
    · obtain ⟨capX, wX, run3, _, _, gX, rdwX⟩ := run_catI (w := wa0) (b := _) (c2 := d) (ty := 22) (hs0.out.gr hS.2.2) hn1
      refine wpIn_run (.tmp 8) (.tmp 10) 22 rfl rfl rfl run3 ?_
      have hS : wX.cell? ⟨w.heap.size, 0, none⟩ = some (.slice a n c) ∧ wX.cell? ⟨w.heap.size, 1, none⟩ = some (.slice a2 n d) ∧ Gr w wX := ⟨gX.cell hS.1, gX.cell hS.2.1, hS.2.2.trans gX⟩
      have BY := Lib.hid (BY.out.gr gX)
      have RX := Lib.hid rdwX
      refine hK.out _ _ hS ?_
      clear hK K gX
      refine wpAnyHIn_ready [4] (by kernel_rfl) (by simp) ?_
      refine AllHIn.cons rfl (by rfl) (fun K hK => ?_) (AllHIn.nil)
      go_simp
      have gX := (Gr.refl wX).alloc (.cells #[] 3)
      have hS : (wX.alloc (.cells #[] 3)).cell? ⟨w.heap.size, 0, none⟩ = some (.slice a n c) ∧ (wX.alloc (.cells #[] 3)).cell? ⟨w.heap.size, 1, none⟩ = some (.slice a2 n d) ∧ Gr w (wX.alloc (.cells #[] 3)) := ⟨gX.cell hS.1, gX.cell hS.2.1, hS.2.2.trans gX⟩
      have BY := Lib.hid (BY.out.gr gX)
      have RX := Lib.hid (RX.out.gr gX)
      refine hK.out _ _ hS ?_
      clear hK K gX
      obtain ⟨wa1, hwa1⟩ : ∃ wa, wX.alloc (.cells #[] 3) = wa := ⟨_, rfl⟩
      have hb1 : wX.heap.size = wX.heap.size := rfl
      rw [hwa1] at hS BY RX ⊢
      refine wpAnyHIn_ready [7] (by kernel_rfl) (by simp) ?_
      refine AllHIn.cons rfl (by rfl) (fun K hK => ?_) (AllHIn.nil)
      obtain ⟨capY, wY, run7, _, _, gX, rdwY⟩ := run_catI (w := wa1) (b := _) (c2 := c) (ty := 22) (hr0.out.gr hS.2.2) hn1
      refine wpIn_run (.tmp 12) (.tmp 14) 22 rfl rfl rfl run7 ?_
      have hS : wY.cell? ⟨w.heap.size, 0, none⟩ = some (.slice a n c) ∧ wY.cell? ⟨w.heap.size, 1, none⟩ = some (.slice a2 n d) ∧ Gr w wY := ⟨gX.cell hS.1, gX.cell hS.2.1, hS.2.2.trans gX⟩
      have BY := Lib.hid (BY.out.gr gX)
      have RX := Lib.hid (RX.out.gr gX)
      refine hK.out _ _ hS ?_
      clear hK K gX
      iterate 1 (first
        | (refine wpAnyHIn_take 8 (v := ?_) rfl (by kernel_rfl) (by kernel_rfl) (by kernel_rfl) (by decide +kernel) (fun _ _ _ h => h) (fun _ _ _ => trivial) (by rfl) (fun w' hSw => ?_) hS ?_; rotate_left 1; (focus (skip; go_simp; try with_reducible rfl)); simp only [Act.put, List.setIfInBounds_toArray, List.set_cons_zero, List.set_cons_succ]))
      refine wpAnyHIn_ready [9] (by kernel_rfl) (by simp) ?_
      refine AllHIn.cons rfl (by rfl) (fun K hK => ?_) AllHIn.nil
      obtain ⟨k0, k1, k2, k3⟩ := BY.out
      have k5 := cell_by (k := 0) k1 (by omega) (Value.slice (some ⟨wa0.heap.size, 0, none⟩) n capX)
      go_simp
      obtain ⟨WZ, hWZ⟩ : ∃ WZ, (wY.setCell ⟨w.heap.size + 1, 0, none⟩ (.slice (some ⟨wa0.heap.size, 0, none⟩) n capX)).setCell ⟨w.heap.size + 1, 1, none⟩ (.slice (some ⟨wa1.heap.size, 0, none⟩) n capY) = WZ := ⟨_, rfl⟩
      have hS : WZ.cell? ⟨w.heap.size, 0, none⟩ = some (.slice a n c) ∧ WZ.cell? ⟨w.heap.size, 1, none⟩ = some (.slice a2 n d) ∧ Gr w WZ := by rw [← hWZ]; exact ⟨cell_far (cell_far hS.1 (by omega) _) (by omega) _, cell_far (cell_far hS.2.1 (by omega) _) (by omega) _, (hS.2.2.setAt (by omega) _).setAt (by omega) _⟩
      have BZ := Lib.hid (show Box2v WZ (w.heap.size + 1) (.slice (some ⟨wa0.heap.size, 0, none⟩) n capX) (.slice (some ⟨wa1.heap.size, 0, none⟩) n capY) by rw [← hWZ]; exact Box2v.put BY.out _ _)
      have RX2 := Lib.hid (show RdI WZ (some ⟨wa0.heap.size, 0, none⟩) n g by rw [← hWZ]; exact RX.out.put BY.out _ _)
      have RY2 := Lib.hid (show RdI WZ (some ⟨wa1.heap.size, 0, none⟩) n f by rw [← hWZ]; exact rdwY.put BY.out _ _)
      simp only [hWZ]
      refine hK.out _ _ hS ?_
      clear hK K
      iterate 1 (first
        | (refine wpAnyHIn_take 10 (v := ?_) rfl (by kernel_rfl) (by kernel_rfl) (by kernel_rfl) (by decide +kernel) (fun _ _ _ h => h) (fun _ _ _ => trivial) (by rfl) (fun w' hSw => ?_) hS ?_; rotate_left 1; (focus (skip; go_simp; try with_reducible rfl)); simp only [Act.put, List.setIfInBounds_toArray, List.set_cons_zero, List.set_cons_succ]))
      refine wpAnyHIn_done (by kernel_rfl) ?_ _
      obtain ⟨z0, z1, _⟩ := BZ.out
      go_wp2_with fail
      refine bodyPost_ret (v := .tuple #[.agg #[.slice (some ⟨wa0.heap.size, 0, none⟩) n capX, .slice (some ⟨wa1.heap.size, 0, none⟩) n capY], .int .i64 0]) (by simp [results, Try.results30, go_sem, z0, z1]) rfl ⟨_, _, _, _, rfl, RX2.out, RY2.out, hS.2.2⟩
    · go_simp
      have gX := (Gr.refl wa0).alloc (.cells #[] 3)
      have hS : (wa0.alloc (.cells #[] 3)).cell? ⟨w.heap.size, 0, none⟩ = some (.slice a n c) ∧ (wa0.alloc (.cells #[] 3)).cell? ⟨w.heap.size, 1, none⟩ = some (.slice a2 n d) ∧ Gr w (wa0.alloc (.cells #[] 3)) := ⟨gX.cell hS.1, gX.cell hS.2.1, hS.2.2.trans gX⟩
      have BY := Lib.hid (BY.out.gr gX)
      refine hK.out _ _ hS ?_
      clear hK K gX
      obtain ⟨wa1, hwa1⟩ : ∃ wa, wa0.alloc (.cells #[] 3) = wa := ⟨_, rfl⟩
      have hb1 : wa0.heap.size = wa0.heap.size := rfl
      rw [hwa1] at hS BY ⊢
      refine wpAnyHIn_ready [3] (by kernel_rfl) (by simp) ?_
      refine AllHIn.cons rfl (by rfl) (fun K hK => ?_) (AllHIn.nil)
      obtain ⟨capX, wX, run3, _, _, gX, rdwX⟩ := run_catI (w := wa1) (b := _) (c2 := d) (ty := 22) (hs0.out.gr hS.2.2) hn1
      refine wpIn_run (.tmp 8) (.tmp 10) 22 rfl rfl rfl run3 ?_
      have hS : wX.cell? ⟨w.heap.size, 0, none⟩ = some (.slice a n c) ∧ wX.cell? ⟨w.heap.size, 1, none⟩ = some (.slice a2 n d) ∧ Gr w wX := ⟨gX.cell hS.1, gX.cell hS.2.1, hS.2.2.trans gX⟩
      have BY := Lib.hid (BY.out.gr gX)
      have RX := Lib.hid rdwX
      refine hK.out _ _ hS ?_
      clear hK K gX
      refine wpAnyHIn_ready [7] (by kernel_rfl) (by simp) ?_
      refine AllHIn.cons rfl (by rfl) (fun K hK => ?_) (AllHIn.nil)
      obtain ⟨capY, wY, run7, _, _, gX, rdwY⟩ := run_catI (w := wX) (b := _) (c2 := c) (ty := 22) (hr0.out.gr hS.2.2) hn1
      refine wpIn_run (.tmp 12) (.tmp 14) 22 rfl rfl rfl run7 ?_
      have hS : wY.cell? ⟨w.heap.size, 0, none⟩ = some (.slice a n c) ∧ wY.cell? ⟨w.heap.size, 1, none⟩ = some (.slice a2 n d) ∧ Gr w wY := ⟨gX.cell hS.1, gX.cell hS.2.1, hS.2.2.trans gX⟩
      have BY := Lib.hid (BY.out.gr gX)
      have RX := Lib.hid (RX.out.gr gX)
      refine hK.out _ _ hS ?_
      clear hK K gX
      iterate 1 (first
        | (refine wpAnyHIn_take 8 (v := ?_) rfl (by kernel_rfl) (by kernel_rfl) (by kernel_rfl) (by decide +kernel) (fun _ _ _ h => h) (fun _ _ _ => trivial) (by rfl) (fun w' hSw => ?_) hS ?_; rotate_left 1; (focus (skip; go_simp; try with_reducible rfl)); simp only [Act.put, List.setIfInBounds_toArray, List.set_cons_zero, List.set_cons_succ]))
      refine wpAnyHIn_ready [9] (by kernel_rfl) (by simp) ?_
      refine AllHIn.cons rfl (by rfl) (fun K hK => ?_) AllHIn.nil
      obtain ⟨k0, k1, k2, k3⟩ := BY.out
      have k5 := cell_by (k := 0) k1 (by omega) (Value.slice (some ⟨wa1.heap.size, 0, none⟩) n capX)
      go_simp
      obtain ⟨WZ, hWZ⟩ : ∃ WZ, (wY.setCell ⟨w.heap.size + 1, 0, none⟩ (.slice (some ⟨wa1.heap.size, 0, none⟩) n capX)).setCell ⟨w.heap.size + 1, 1, none⟩ (.slice (some ⟨wX.heap.size, 0, none⟩) n capY) = WZ := ⟨_, rfl⟩
      have hS : WZ.cell? ⟨w.heap.size, 0, none⟩ = some (.slice a n c) ∧ WZ.cell? ⟨w.heap.size, 1, none⟩ = some (.slice a2 n d) ∧ Gr w WZ := by rw [← hWZ]; exact ⟨cell_far (cell_far hS.1 (by omega) _) (by omega) _, cell_far (cell_far hS.2.1 (by omega) _) (by omega) _, (hS.2.2.setAt (by omega) _).setAt (by omega) _⟩
      have BZ := Lib.hid (show Box2v WZ (w.heap.size + 1) (.slice (some ⟨wa1.heap.size, 0, none⟩) n capX) (.slice (some ⟨wX.heap.size, 0, none⟩) n capY) by rw [← hWZ]; exact Box2v.put BY.out _ _)
      have RX2 := Lib.hid (show RdI WZ (some ⟨wa1.heap.size, 0, none⟩) n g by rw [← hWZ]; exact RX.out.put BY.out _ _)
      have RY2 := Lib.hid (show RdI WZ (some ⟨wX.heap.size, 0, none⟩) n f by rw [← hWZ]; exact rdwY.put BY.out _ _)
      simp only [hWZ]
      refine hK.out _ _ hS ?_
      clear hK K
      iterate 1 (first
        | (refine wpAnyHIn_take 10 (v := ?_) rfl (by kernel_rfl) (by kernel_rfl) (by kernel_rfl) (by decide +kernel) (fun _ _ _ h => h) (fun _ _ _ => trivial) (by rfl) (fun w' hSw => ?_) hS ?_; rotate_left 1; (focus (skip; go_simp; try with_reducible rfl)); simp only [Act.put, List.setIfInBounds_toArray, List.set_cons_zero, List.set_cons_succ]))
      refine wpAnyHIn_done (by kernel_rfl) ?_ _
      obtain ⟨z0, z1, _⟩ := BZ.out
      go_wp2_with fail
      refine bodyPost_ret (v := .tuple #[.agg #[.slice (some ⟨wa1.heap.size, 0, none⟩) n capX, .slice (some ⟨wX.heap.size, 0, none⟩) n capY], .int .i64 0]) (by simp [results, Try.results30, go_sem, z0, z1]) rfl ⟨_, _, _, _, rfl, RX2.out, RY2.out, hS.2.2⟩
  · go_simp
    have gX := (Gr.refl WD).alloc (.cells #[] 3)
    have hS : (WD.alloc (.cells #[] 3)).cell? ⟨w.heap.size, 0, none⟩ = some (.slice a n c) ∧ (WD.alloc (.cells #[] 3)).cell? ⟨w.heap.size, 1, none⟩ = some (.slice a2 n d) ∧ Gr w (WD.alloc (.cells #[] 3)) := ⟨gX.cell hS.1, gX.cell hS.2.1, hS.2.2.trans gX⟩
    have BY := Lib.hid (BY.out.gr gX)
    refine hK.out _ _ hS ?_
    clear hK K gX
    obtain ⟨wa0, hwa0⟩ : ∃ wa, WD.alloc (.cells #[] 3) = wa := ⟨_, rfl⟩
    have hb0 : WD.heap.size = WD.heap.size := rfl
    rw [hwa0] at hS BY ⊢
    refine wpAnyHIn_ready [0] (by kernel_rfl) (by simp) ?_
    refine AllHIn.cons rfl (by rfl) (fun K hK => ?_) (AllHIn.nil)
    go_simp
    have gX := (Gr.refl wa0).alloc (.cells #[] 3)
    have hS : (wa0.alloc (.cells #[] 3)).cell? ⟨w.heap.size, 0, none⟩ = some (.slice a n c) ∧ (wa0.alloc (.cells #[] 3)).cell? ⟨w.heap.size, 1, none⟩ = some (.slice a2 n d) ∧ Gr w (wa0.alloc (.cells #[] 3)) := ⟨gX.cell hS.1, gX.cell hS.2.1, hS.2.2.trans gX⟩
    have BY := Lib.hid (BY.out.gr gX)
    refine hK.out _ _ hS ?_
    clear hK K gX
    obtain ⟨wa1, hwa1⟩ : ∃ wa, wa0.alloc (.cells #[] 3) = wa := ⟨_, rfl⟩
    have hb1 : wa0.heap.size = wa0.heap.size := rfl
    rw [hwa1] at hS BY ⊢
    refine wpAnyHIn_ready [3] (by kernel_rfl) (by simp) ?_
    refine AllHIn.cons rfl (by rfl) (fun K hK => ?_) (AllHIn.nil)
    obtain ⟨capX, wX, run3, _, _, gX, rdwX⟩ := run_catI (w := wa1) (b := _) (c2 := d) (ty := 22) (hs0.out.gr hS.2.2) hn1
    refine wpIn_run (.tmp 8) (.tmp 10) 22 rfl rfl rfl run3 ?_
    have hS : wX.cell? ⟨w.heap.size, 0, none⟩ = some (.slice a n c) ∧ wX.cell? ⟨w.heap.size, 1, none⟩ = some (.slice a2 n d) ∧ Gr w wX := ⟨gX.cell hS.1, gX.cell hS.2.1, hS.2.2.trans gX⟩
    have BY := Lib.hid (BY.out.gr gX)
    have RX := Lib.hid rdwX
    refine hK.out _ _ hS ?_
    clear hK K gX
    refine wpAnyHIn_ready [7] (by kernel_rfl) (by simp) ?_
    refine AllHIn.cons rfl (by rfl) (fun K hK => ?_) (AllHIn.nil)
    obtain ⟨capY, wY, run7, _, _, gX, rdwY⟩ := run_catI (w := wX) (b := _) (c2 := c) (ty := 22) (hr0.out.gr hS.2.2) hn1
    refine wpIn_run (.tmp 12) (.tmp 14) 22 rfl rfl rfl run7 ?_
    have hS : wY.cell? ⟨w.heap.size, 0, none⟩ = some (.slice a n c) ∧ wY.cell? ⟨w.heap.size, 1, none⟩ = some (.slice a2 n d) ∧ Gr w wY := ⟨gX.cell hS.1, gX.cell hS.2.1, hS.2.2.trans gX⟩
    have BY := Lib.hid (BY.out.gr gX)
    have RX := Lib.hid (RX.out.gr gX)
    refine hK.out _ _ hS ?_
    clear hK K gX
    iterate 1 (first
      | (refine wpAnyHIn_take 8 (v := ?_) rfl (by kernel_rfl) (by kernel_rfl) (by kernel_rfl) (by decide +kernel) (fun _ _ _ h => h) (fun _ _ _ => trivial) (by rfl) (fun w' hSw => ?_) hS ?_; rotate_left 1; (focus (skip; go_simp; try with_reducible rfl)); simp only [Act.put, List.setIfInBounds_toArray, List.set_cons_zero, List.set_cons_succ]))
    refine wpAnyHIn_ready [9] (by kernel_rfl) (by simp) ?_
    refine AllHIn.cons rfl (by rfl) (fun K hK => ?_) AllHIn.nil
    obtain ⟨k0, k1, k2, k3⟩ := BY.out
    have k5 := cell_by (k := 0) k1 (by omega) (Value.slice (some ⟨wa1.heap.size, 0, none⟩) n capX)
    go_simp
    obtain ⟨WZ, hWZ⟩ : ∃ WZ, (wY.setCell ⟨w.heap.size + 1, 0, none⟩ (.slice (some ⟨wa1.heap.size, 0, none⟩) n capX)).setCell ⟨w.heap.size + 1, 1, none⟩ (.slice (some ⟨wX.heap.size, 0, none⟩) n capY) = WZ := ⟨_, rfl⟩
    have hS : WZ.cell? ⟨w.heap.size, 0, none⟩ = some (.slice a n c) ∧ WZ.cell? ⟨w.heap.size, 1, none⟩ = some (.slice a2 n d) ∧ Gr w WZ := by rw [← hWZ]; exact ⟨cell_far (cell_far hS.1 (by omega) _) (by omega) _, cell_far (cell_far hS.2.1 (by omega) _) (by omega) _, (hS.2.2.setAt (by omega) _).setAt (by omega) _⟩
    have BZ := Lib.hid (show Box2v WZ (w.heap.size + 1) (.slice (some ⟨wa1.heap.size, 0, none⟩) n capX) (.slice (some ⟨wX.heap.size, 0, none⟩) n capY) by rw [← hWZ]; exact Box2v.put BY.out _ _)
    have RX2 := Lib.hid (show RdI WZ (some ⟨wa1.heap.size, 0, none⟩) n g by rw [← hWZ]; exact RX.out.put BY.out _ _)
    have RY2 := Lib.hid (show RdI WZ (some ⟨wX.heap.size, 0, none⟩) n f by rw [← hWZ]; exact rdwY.put BY.out _ _)
    simp only [hWZ]
    refine hK.out _ _ hS ?_
    clear hK K
    iterate 1 (first
      | (refine wpAnyHIn_take 10 (v := ?_) rfl (by kernel_rfl) (by kernel_rfl) (by kernel_rfl) (by decide +kernel) (fun _ _ _ h => h) (fun _ _ _ => trivial) (by rfl) (fun w' hSw => ?_) hS ?_; rotate_left 1; (focus (skip; go_simp; try with_reducible rfl)); simp only [Act.put, List.setIfInBounds_toArray, List.set_cons_zero, List.set_cons_succ]))
    refine wpAnyHIn_done (by kernel_rfl) ?_ _
    obtain ⟨z0, z1, _⟩ := BZ.out
    go_wp2_with fail
    refine bodyPost_ret (v := .tuple #[.agg #[.slice (some ⟨wa1.heap.size, 0, none⟩) n capX, .slice (some ⟨wX.heap.size, 0, none⟩) n capY], .int .i64 0]) (by simp [results, Try.results30, go_sem, z0, z1]) rfl ⟨_, _, _, _, rfl, RX2.out, RY2.out, hS.2.2⟩

end Go.Proofs.Ytohcnicadbpbbaa
