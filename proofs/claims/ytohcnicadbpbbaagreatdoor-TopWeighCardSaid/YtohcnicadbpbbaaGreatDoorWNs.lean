/- Contracts: the noise and the signal of a cut, of the reference. -/
import Derived.Test.YtohcnicadbpbbaaGreatDoorMB
namespace Go.Proofs.YtohcnicadbpbbaaGreatDoor
open Go.RowKit Go.Firn

set_option maxHeartbeats 2000000 in
theorem refNoise_any (a a2 a3 : Option Addr) (n c m d q c3 : Nat) (f g h : Nat → Int) (w : World) (hn : n ≤ 1000) (hm : m ≤ 1000) (hq : q ≤ 1000) (hr : RdI w a n f) (hs : RdI w a2 m g) (ht : RdI w a3 q h) :
    Calls Tryz.prog 25 #[.agg #[.slice a n c, .slice a2 m d], .slice a3 q c3] w
      (RetRE (okN (askE n m f g q h) (rN (kp f h q) (sm f n))) (okN (askE n m f g q h) (rD (kp f h q) (sm f n))) (askE n m f g q h) w) := by
  obtain ⟨W0, hW0⟩ : ∃ W0, (w.alloc (.cells #[.slice a n c, .slice a2 m d] 24)).alloc (.cells #[.int .i64 0, .int .i64 0] 28) = W0 := ⟨_, rfl⟩
  have G0 := Lib.hid (show Gr w W0 by rw [← hW0]; exact ((Gr.refl w).alloc _).alloc _)
  have B1 := Lib.hid (show BoxO W0 w.heap.size (.slice a n c) (.slice a2 m d) by rw [← hW0]; exact (BoxO.new rfl).gr ((Gr.refl _).alloc _))
  have B2 := Lib.hid (show Box2 W0 (w.heap.size + 1) 0 0 by rw [← hW0]; exact Box2.new (by simp))
  have CA := Lib.hid (refasked_any a a2 a3 n c m d q c3 f g h W0 hn hm hq (hr.gr G0.out) (hs.gr G0.out) (ht.gr G0.out))
  obtain ⟨p0, p1⟩ := B1.out
  by_cases he : askE n m f g q h = 0
  · have hv : vO n m f g = true := by
      cases hv : vO n m f g with
      | true => rfl
      | false => rw [askE_no hv] at he; omega
    have hc : cutB n q h = true := by
      cases hc : cutB n q h with
      | true => rfl
      | false => rw [askE_bad hv hc] at he; omega
    have V := (vO_iff.1 hv).noise
    have C1 := Lib.hid (fun w' (k : Gr w w') => refkept_any a a3 n c q c3 f h w' hq (hr.gr k) (ht.gr k) (fun i hi => by have := V.ok i hi; omega) (cutB_iff.1 hc).ok)
    have C2 := Lib.hid (fun w' (k : Gr w w') => Total_any a n c f w' (by omega) (hr.gr k) (fun i hi => by have := V.ok i hi; omega))
    have K := kp_bd (f := f) (g := h) (B := 1000) (n := n) (k := q) V.ok (cutB_iff.1 hc).ok
    have SS := V.sum
    have C3 := Lib.hid (fun w' => Ratio_any (kp f h q) (sm f n) w' ⟨by omega, by omega⟩ ⟨by omega, by omega⟩ SS.1)
    rw [he] at CA
    rw [he]
    have e1 : okN 0 (rN (kp f h q) (sm f n)) = (rN (kp f h q) (sm f n)) := rfl
    have e2 : okN 0 (rD (kp f h q) (sm f n)) = (rD (kp f h q) (sm f n)) := rfl
    rw [e1, e2]
    clear e1 e2 he hv hc V K SS hr hs ht hn hm hq
    generalize kp f h q = x at *
    generalize sm f n = y at *
    go_enter Tryz.func25, Tryz.ntmps25
    go_wp2_with (go_at_call 49; (with_reducible refine CA.out.mono ?_); rintro e w1 ⟨rfl, g1⟩; have G1 := Lib.hid (G0.out.trans g1); have B2' := Lib.hid (B2.out.gr g1); obtain ⟨k0, k1, k2, k3⟩ := B2'.out; obtain ⟨q0, q1⟩ := B1.out.gr g1; clear g1 p0 p1)
    go_region_held3 (fun w' => w'.cell? ⟨w.heap.size, 0, none⟩ = some (.slice a n c))
      (first | exact q0 | exact g3.cell q0 | go_keep)
      (first
        | (go_at_call 51; (with_reducible refine (C1.out _ (by first | exact G1.out | exact G1.out.drew)).mono ?_); rintro e w2 ⟨rfl, rfl⟩)
        | (go_at_call 47; (with_reducible refine (C2.out _ (by first | exact G1.out | exact G1.out.drew)).mono ?_); rintro e w2 ⟨rfl, rfl⟩)
        | (go_at_call 50; (with_reducible refine (C3.out _).mono ?_); rintro e w3 ⟨rfl, g3⟩; obtain ⟨k0, k1, k2, k3⟩ := (show Box2 w3 (w.heap.size + 1) 0 0 from by first | exact B2'.out.gr g3 | exact B2'.out.drew.gr g3); have G3 := Lib.hid (show Gr w w3 from by first | exact G1.out.trans g3 | exact G1.out.drew.trans g3)))
    obtain ⟨z0, z1, _⟩ := (show Box2 w3 (w.heap.size + 1) 0 0 from ⟨k0, k1, k2, k3⟩).put (x' := rN x y) (y' := rD x y)
    go_wp2_with fail
    refine bodyPost_ret (v := .tuple #[.agg #[.int .i64 (rN x y), .int .i64 (rD x y)], .int .i64 0]) (by simp [results, Tryz.results25, go_sem, z0, z1]) rfl ⟨rfl, ?_⟩
    repeat (first | exact G3.out | refine Gr.setCell ?_ (by simp; omega) _ | refine Gr.setCell ?_ (by simp) _ | refine Gr.alloc ?_ _ | refine Gr.drewN ?_ _ | refine Gr.drew ?_)
  · have e1 : ∀ x, okN (askE n m f g q h) x = 0 := fun x => if_neg he
    rw [e1, e1]
    clear hr hs ht e1
    generalize askE n m f g q h = E at *
    have d1 : (E != 0) = true := by simpa using he
    clear he
    go_enter Tryz.func25, Tryz.ntmps25
    go_wp2_with (go_at_call 49; (with_reducible refine CA.out.mono ?_); rintro e w1 ⟨rfl, g1⟩; have G1 := Lib.hid (G0.out.trans g1); obtain ⟨k0, k1, k2, k3⟩ := B2.out.gr g1; clear g1 p0 p1)
    obtain ⟨z0, z1, _⟩ := (show Box2 w1 (w.heap.size + 1) 0 0 from ⟨k0, k1, k2, k3⟩).put (x' := 0) (y' := 0)
    refine bodyPost_ret (v := .tuple #[.agg #[.int .i64 0, .int .i64 0], .int .i64 E]) (by simp [results, Tryz.results25, go_sem, z0, z1]) rfl ⟨rfl, ?_⟩
    repeat (first | exact G1.out | refine Gr.setCell ?_ (by simp; omega) _ | refine Gr.setCell ?_ (by simp) _ | refine Gr.alloc ?_ _ | refine Gr.drewN ?_ _ | refine Gr.drew ?_)

set_option maxHeartbeats 2000000 in
theorem refSignal_any (a a2 a3 : Option Addr) (n c m d q c3 : Nat) (f g h : Nat → Int) (w : World) (hn : n ≤ 1000) (hm : m ≤ 1000) (hq : q ≤ 1000) (hr : RdI w a n f) (hs : RdI w a2 m g) (ht : RdI w a3 q h) :
    Calls Tryz.prog 26 #[.agg #[.slice a n c, .slice a2 m d], .slice a3 q c3] w
      (RetRE (okN (askE n m f g q h) (rN (kp g h q) (sm g m))) (okN (askE n m f g q h) (rD (kp g h q) (sm g m))) (askE n m f g q h) w) := by
  obtain ⟨W0, hW0⟩ : ∃ W0, (w.alloc (.cells #[.slice a n c, .slice a2 m d] 24)).alloc (.cells #[.int .i64 0, .int .i64 0] 28) = W0 := ⟨_, rfl⟩
  have G0 := Lib.hid (show Gr w W0 by rw [← hW0]; exact ((Gr.refl w).alloc _).alloc _)
  have B1 := Lib.hid (show BoxO W0 w.heap.size (.slice a n c) (.slice a2 m d) by rw [← hW0]; exact (BoxO.new rfl).gr ((Gr.refl _).alloc _))
  have B2 := Lib.hid (show Box2 W0 (w.heap.size + 1) 0 0 by rw [← hW0]; exact Box2.new (by simp))
  have CA := Lib.hid (refasked_any a a2 a3 n c m d q c3 f g h W0 hn hm hq (hr.gr G0.out) (hs.gr G0.out) (ht.gr G0.out))
  obtain ⟨p0, p1⟩ := B1.out
  by_cases he : askE n m f g q h = 0
  · have hv : vO n m f g = true := by
      cases hv : vO n m f g with
      | true => rfl
      | false => rw [askE_no hv] at he; omega
    have hc : cutB n q h = true := by
      cases hc : cutB n q h with
      | true => rfl
      | false => rw [askE_bad hv hc] at he; omega
    have V := (vO_iff.1 hv).sig
    have C1 := Lib.hid (fun w' (k : Gr w w') => refkept_any a2 a3 m d q c3 g h w' hq (hs.gr k) (ht.gr k) (fun i hi => by have := V.ok i hi; omega) (by rw [← (vO_iff.1 hv).same]; exact (cutB_iff.1 hc).ok))
    have C2 := Lib.hid (fun w' (k : Gr w w') => Total_any a2 m d g w' (by omega) (hs.gr k) (fun i hi => by have := V.ok i hi; omega))
    have K := kp_bd (f := g) (g := h) (B := 1000) (n := m) (k := q) V.ok (by rw [← (vO_iff.1 hv).same]; exact (cutB_iff.1 hc).ok)
    have SS := V.sum
    have C3 := Lib.hid (fun w' => Ratio_any (kp g h q) (sm g m) w' ⟨by omega, by omega⟩ ⟨by omega, by omega⟩ SS.1)
    rw [he] at CA
    rw [he]
    have e1 : okN 0 (rN (kp g h q) (sm g m)) = (rN (kp g h q) (sm g m)) := rfl
    have e2 : okN 0 (rD (kp g h q) (sm g m)) = (rD (kp g h q) (sm g m)) := rfl
    rw [e1, e2]
    clear e1 e2 he hv hc V K SS hr hs ht hn hm hq
    generalize kp g h q = x at *
    generalize sm g m = y at *
    go_enter Tryz.func26, Tryz.ntmps26
    go_wp2_with (go_at_call 49; (with_reducible refine CA.out.mono ?_); rintro e w1 ⟨rfl, g1⟩; have G1 := Lib.hid (G0.out.trans g1); have B2' := Lib.hid (B2.out.gr g1); obtain ⟨k0, k1, k2, k3⟩ := B2'.out; obtain ⟨q0, q1⟩ := B1.out.gr g1; clear g1 p0 p1)
    go_region_held3 (fun w' => w'.cell? ⟨w.heap.size, 1, none⟩ = some (.slice a2 m d))
      (first | exact q1 | exact g3.cell q1 | go_keep)
      (first
        | (go_at_call 51; (with_reducible refine (C1.out _ (by first | exact G1.out | exact G1.out.drew)).mono ?_); rintro e w2 ⟨rfl, rfl⟩)
        | (go_at_call 47; (with_reducible refine (C2.out _ (by first | exact G1.out | exact G1.out.drew)).mono ?_); rintro e w2 ⟨rfl, rfl⟩)
        | (go_at_call 50; (with_reducible refine (C3.out _).mono ?_); rintro e w3 ⟨rfl, g3⟩; obtain ⟨k0, k1, k2, k3⟩ := (show Box2 w3 (w.heap.size + 1) 0 0 from by first | exact B2'.out.gr g3 | exact B2'.out.drew.gr g3); have G3 := Lib.hid (show Gr w w3 from by first | exact G1.out.trans g3 | exact G1.out.drew.trans g3)))
    obtain ⟨z0, z1, _⟩ := (show Box2 w3 (w.heap.size + 1) 0 0 from ⟨k0, k1, k2, k3⟩).put (x' := rN x y) (y' := rD x y)
    go_wp2_with fail
    refine bodyPost_ret (v := .tuple #[.agg #[.int .i64 (rN x y), .int .i64 (rD x y)], .int .i64 0]) (by simp [results, Tryz.results26, go_sem, z0, z1]) rfl ⟨rfl, ?_⟩
    repeat (first | exact G3.out | refine Gr.setCell ?_ (by simp; omega) _ | refine Gr.setCell ?_ (by simp) _ | refine Gr.alloc ?_ _ | refine Gr.drewN ?_ _ | refine Gr.drew ?_)
  · have e1 : ∀ x, okN (askE n m f g q h) x = 0 := fun x => if_neg he
    rw [e1, e1]
    clear hr hs ht e1
    generalize askE n m f g q h = E at *
    have d1 : (E != 0) = true := by simpa using he
    clear he
    go_enter Tryz.func26, Tryz.ntmps26
    go_wp2_with (go_at_call 49; (with_reducible refine CA.out.mono ?_); rintro e w1 ⟨rfl, g1⟩; have G1 := Lib.hid (G0.out.trans g1); obtain ⟨k0, k1, k2, k3⟩ := B2.out.gr g1; clear g1 p0 p1)
    obtain ⟨z0, z1, _⟩ := (show Box2 w1 (w.heap.size + 1) 0 0 from ⟨k0, k1, k2, k3⟩).put (x' := 0) (y' := 0)
    refine bodyPost_ret (v := .tuple #[.agg #[.int .i64 0, .int .i64 0], .int .i64 E]) (by simp [results, Tryz.results26, go_sem, z0, z1]) rfl ⟨rfl, ?_⟩
    repeat (first | exact G1.out | refine Gr.setCell ?_ (by simp; omega) _ | refine Gr.setCell ?_ (by simp) _ | refine Gr.alloc ?_ _ | refine Gr.drewN ?_ _ | refine Gr.drew ?_)

end Go.Proofs.YtohcnicadbpbbaaGreatDoor
