/- Contracts of chapter 7: the noise and the signal of a cut, of the program and of the reference. -/
import Derived.Test.YtohcnicadbpbbaaDoorW7
namespace Go.Proofs.YtohcnicadbpbbaaDoor
open Go.RowKit Go.Firn

theorem VW.sum {n : Nat} {f : Nat → Int} (h : VW n f) : 0 < sm f n ∧ sm f n ≤ 1000000 := by
  have a := (sm_bd (f := f) (B := 1000) (k := n) h.ok).2
  have b := h.few
  exact ⟨h.pos, by omega⟩
theorem VO.sig {n m : Nat} {f g : Nat → Int} (h : VO n m f g) : VW m g := h.same ▸ h.signal

set_option maxHeartbeats 1000000 in
theorem Noise_any (a a2 a3 : Option Addr) (n c m d q c3 : Nat) (f g h : Nat → Int) (w : World) (hn : n ≤ 1000) (hm : m ≤ 1000) (hq : q ≤ 1000) (hr : RdI w a n f) (hs : RdI w a2 m g) (ht : RdI w a3 q h) :
    Calls Tryd.prog 49 #[.agg #[.slice a n c, .slice a2 m d], .slice a3 q c3] w
      (RetRE (okN (askE n m f g q h) (rN (kp f h q) (sm f n))) (okN (askE n m f g q h) (rD (kp f h q) (sm f n))) (askE n m f g q h) w) := by
  obtain ⟨W0, hW0⟩ : ∃ W0, ((w.alloc (.cells #[.slice a n c, .slice a2 m d] 24)).alloc (.cells #[.slice a3 q c3] 22)).alloc (.cells #[.int .i64 0, .int .i64 0] 26) = W0 := ⟨_, rfl⟩
  have G0 := Lib.hid (show Gr w W0 by rw [← hW0]; exact (((Gr.refl w).alloc _).alloc _).alloc _)
  have B1 := Lib.hid (show BoxO W0 w.heap.size (.slice a n c) (.slice a2 m d) by rw [← hW0]; exact (BoxO.new rfl).gr (((Gr.refl _).alloc _).alloc _))
  have B3 := Lib.hid (show W0.cell? ⟨w.heap.size + 1, 0, none⟩ = some (.slice a3 q c3) by rw [← hW0]; exact ((Gr.refl _).alloc _).cell (((Gr.refl ((w.alloc (.cells #[.slice a n c, .slice a2 m d] 24)).alloc (.cells #[.slice a3 q c3] 22))).fresh' (b := w.heap.size + 1) (j := 0) (v := .slice a3 q c3) (by simp) rfl).1))
  have B2 := Lib.hid (show Box2 W0 (w.heap.size + 1 + 1) 0 0 by rw [← hW0]; exact Box2.new (by simp))
  have hmf : ∀ (fn : Fn) (first cap : Array Value) (w : World), (Instr.makeFunc fn first cap).run Tryd.prog w = .ok (.func fn first cap) w := fun _ _ _ _ => rfl
  have CA := Lib.hid (asked_any 76 (.pointer (some ⟨w.heap.size + 1, 0, none⟩)) cf37 a a2 a3 n c m d q c3 f g h (rN (kp f h q) (sm f n)) (rD (kp f h q) (sm f n)) W0 hn hm hq (hr.gr G0.out) (hs.gr G0.out) (ht.gr G0.out)
    (fun hv hc wz kz => Noise1_any a a3 n c q c3 (w.heap.size + 1) (.slice a2 m d) f h (sm f n) (sm g m) wz hq (hr.gr (G0.out.trans kz)) (ht.gr (G0.out.trans kz)) (vO_iff.1 hv).noise.ok (cutB_iff.1 hc).ok (vO_iff.1 hv).noise.sum (kz.cell B3.out)))
  obtain ⟨p0, p1⟩ := B1.out
  have p2 := B3.out
  generalize (rN (kp f h q) (sm f n)) = P at *
  generalize (rD (kp f h q) (sm f n)) = Q at *
  generalize askE n m f g q h = E at *
  clear hr hs ht
  go_enter Tryd.func49, Tryd.ntmps49
  go_wp2_with (go_at_call 75; (with_reducible refine CA.out.mono ?_); rintro e w1 ⟨rfl, g1⟩; have G1 := Lib.hid (G0.out.trans g1); obtain ⟨k0, k1, k2, k3⟩ := B2.out.gr g1; clear g1)
  obtain ⟨z0, z1, _⟩ := (show Box2 w1 (w.heap.size + 1 + 1) 0 0 from ⟨k0, k1, k2, k3⟩).put (x' := okN E P) (y' := okN E Q)
  refine bodyPost_ret (v := .tuple #[.agg #[.int .i64 (okN E P), .int .i64 (okN E Q)], .int .i64 E]) (by simp [results, Tryd.results49, go_sem, z0, z1]) rfl ⟨rfl, ?_⟩
  repeat (first | exact G1.out | refine Gr.setCell ?_ (by simp; omega) _ | refine Gr.setCell ?_ (by simp) _ | refine Gr.alloc ?_ _ | refine Gr.drewN ?_ _ | refine Gr.drew ?_)

set_option maxHeartbeats 1000000 in
theorem Signal_any (a a2 a3 : Option Addr) (n c m d q c3 : Nat) (f g h : Nat → Int) (w : World) (hn : n ≤ 1000) (hm : m ≤ 1000) (hq : q ≤ 1000) (hr : RdI w a n f) (hs : RdI w a2 m g) (ht : RdI w a3 q h) :
    Calls Tryd.prog 50 #[.agg #[.slice a n c, .slice a2 m d], .slice a3 q c3] w
      (RetRE (okN (askE n m f g q h) (rN (kp g h q) (sm g m))) (okN (askE n m f g q h) (rD (kp g h q) (sm g m))) (askE n m f g q h) w) := by
  obtain ⟨W0, hW0⟩ : ∃ W0, ((w.alloc (.cells #[.slice a n c, .slice a2 m d] 24)).alloc (.cells #[.slice a3 q c3] 22)).alloc (.cells #[.int .i64 0, .int .i64 0] 26) = W0 := ⟨_, rfl⟩
  have G0 := Lib.hid (show Gr w W0 by rw [← hW0]; exact (((Gr.refl w).alloc _).alloc _).alloc _)
  have B1 := Lib.hid (show BoxO W0 w.heap.size (.slice a n c) (.slice a2 m d) by rw [← hW0]; exact (BoxO.new rfl).gr (((Gr.refl _).alloc _).alloc _))
  have B3 := Lib.hid (show W0.cell? ⟨w.heap.size + 1, 0, none⟩ = some (.slice a3 q c3) by rw [← hW0]; exact ((Gr.refl _).alloc _).cell (((Gr.refl ((w.alloc (.cells #[.slice a n c, .slice a2 m d] 24)).alloc (.cells #[.slice a3 q c3] 22))).fresh' (b := w.heap.size + 1) (j := 0) (v := .slice a3 q c3) (by simp) rfl).1))
  have B2 := Lib.hid (show Box2 W0 (w.heap.size + 1 + 1) 0 0 by rw [← hW0]; exact Box2.new (by simp))
  have hmf : ∀ (fn : Fn) (first cap : Array Value) (w : World), (Instr.makeFunc fn first cap).run Tryd.prog w = .ok (.func fn first cap) w := fun _ _ _ _ => rfl
  have CA := Lib.hid (asked_any 77 (.pointer (some ⟨w.heap.size + 1, 0, none⟩)) cf44 a a2 a3 n c m d q c3 f g h (rN (kp g h q) (sm g m)) (rD (kp g h q) (sm g m)) W0 hn hm hq (hr.gr G0.out) (hs.gr G0.out) (ht.gr G0.out)
    (fun hv hc wz kz => Signal1_any a2 a3 m d q c3 (w.heap.size + 1) (.slice a n c) g h (sm g m) (sm f n) wz hq (hs.gr (G0.out.trans kz)) (ht.gr (G0.out.trans kz)) (vO_iff.1 hv).sig.ok (by rw [← (vO_iff.1 hv).same]; exact (cutB_iff.1 hc).ok) (vO_iff.1 hv).sig.sum (kz.cell B3.out)))
  obtain ⟨p0, p1⟩ := B1.out
  have p2 := B3.out
  generalize (rN (kp g h q) (sm g m)) = P at *
  generalize (rD (kp g h q) (sm g m)) = Q at *
  generalize askE n m f g q h = E at *
  clear hr hs ht
  go_enter Tryd.func50, Tryd.ntmps50
  go_wp2_with (go_at_call 75; (with_reducible refine CA.out.mono ?_); rintro e w1 ⟨rfl, g1⟩; have G1 := Lib.hid (G0.out.trans g1); obtain ⟨k0, k1, k2, k3⟩ := B2.out.gr g1; clear g1)
  obtain ⟨z0, z1, _⟩ := (show Box2 w1 (w.heap.size + 1 + 1) 0 0 from ⟨k0, k1, k2, k3⟩).put (x' := okN E P) (y' := okN E Q)
  refine bodyPost_ret (v := .tuple #[.agg #[.int .i64 (okN E P), .int .i64 (okN E Q)], .int .i64 E]) (by simp [results, Tryd.results50, go_sem, z0, z1]) rfl ⟨rfl, ?_⟩
  repeat (first | exact G1.out | refine Gr.setCell ?_ (by simp; omega) _ | refine Gr.setCell ?_ (by simp) _ | refine Gr.alloc ?_ _ | refine Gr.drewN ?_ _ | refine Gr.drew ?_)

set_option maxHeartbeats 1000000 in
theorem refasked_any (a a2 a3 : Option Addr) (n c m d q c3 : Nat) (f g h : Nat → Int) (w : World) (hn : n ≤ 1000) (hm : m ≤ 1000) (hq : q ≤ 1000) (hr : RdI w a n f) (hs : RdI w a2 m g) (ht : RdI w a3 q h) :
    Calls Tryd.prog 44 #[.agg #[.slice a n c, .slice a2 m d], .slice a3 q c3] w fun e w' => e = .returned (.int .i64 (askE n m f g q h)) ∧ Gr w w' := by
  obtain ⟨W0, hW0⟩ : ∃ W0, w.alloc (.cells #[.slice a n c, .slice a2 m d] 24) = W0 := ⟨_, rfl⟩
  have G0 := Lib.hid (show Gr w W0 by rw [← hW0]; exact (Gr.refl w).alloc _)
  have B1 := Lib.hid (show BoxO W0 w.heap.size (.slice a n c) (.slice a2 m d) by rw [← hW0]; exact BoxO.new rfl)
  have C := Lib.hid (refValid_any a a2 n c m d f g W0 hn hm (hr.gr G0.out) (hs.gr G0.out))
  have C1 := Lib.hid (fun w' (k : Gr W0 w') => refIsCut_any a a3 n c q c3 (.slice a2 m d) h w' hq ((ht.gr G0.out).gr k))
  obtain ⟨p0, p1⟩ := B1.out
  clear hr hs ht
  cases hv : vO n m f g with
  | false =>
    have E := Lib.hid (askE_no (q := q) (h := h) hv)
    rw [E.out]
    rw [hv] at C
    clear hv
    go_enter Tryd.func44, Tryd.ntmps44
    go_wp2_with (go_at_call 17; (with_reducible refine C.out.mono ?_); rintro e w1 ⟨rfl, g1⟩)
    go_ret
    exact ⟨rfl, G0.out.trans g1⟩
  | true =>
    rw [hv] at C
    cases hc : cutB n q h with
    | false =>
      have E := Lib.hid (askE_bad hv hc)
      rw [E.out]
      rw [hc] at C1
      clear hv hc
      go_enter Tryd.func44, Tryd.ntmps44
      go_wp2_with (first
        | (go_at_call 17; (with_reducible refine C.out.mono ?_); rintro e w1 ⟨rfl, g1⟩; have G1 := Lib.hid g1; obtain ⟨q0, q1⟩ := B1.out.gr g1; clear g1 p0 p1)
        | (go_at_call 18; (with_reducible refine (C1.out _ G1.out).mono ?_); rintro e w2 ⟨rfl, g2⟩))
      go_ret
      exact ⟨rfl, (G0.out.trans G1.out).trans g2⟩
    | true =>
      have E := Lib.hid (askE_ok hv hc)
      rw [E.out]
      rw [hc] at C1
      clear hv hc
      go_enter Tryd.func44, Tryd.ntmps44
      go_wp2_with (first
        | (go_at_call 17; (with_reducible refine C.out.mono ?_); rintro e w1 ⟨rfl, g1⟩; have G1 := Lib.hid g1; obtain ⟨q0, q1⟩ := B1.out.gr g1; clear g1 p0 p1)
        | (go_at_call 18; (with_reducible refine (C1.out _ G1.out).mono ?_); rintro e w2 ⟨rfl, g2⟩))
      go_ret
      exact ⟨rfl, (G0.out.trans G1.out).trans g2⟩

end Go.Proofs.YtohcnicadbpbbaaDoor
