/- Contracts of chapter 7: the noise and the signal of a cut, of the program. -/
import Derived.Test.YtohcnicadbpbbaaDoorW6
namespace Go.Proofs.YtohcnicadbpbbaaDoor
open Go.RowKit Go.Firn

set_option maxHeartbeats 1000000 in
theorem Noise1_any (a a2 : Option Addr) (n c m c2 bs : Nat) (t : Value) (f g : Nat → Int) (x y : Int) (w : World) (hm : m ≤ 1000) (hr : RdI w a n f) (hs : RdI w a2 m g)
    (hf : ∀ i, i < n → 0 ≤ f i ∧ f i ≤ 1000) (hg : ∀ i, i < m → 0 ≤ g i ∧ g i < n) (hx : 0 < x ∧ x ≤ 1000000) (hb : w.cell? ⟨bs, 0, none⟩ = some (.slice a2 m c2)) :
    Calls Tryd.prog 76 #[.agg #[.slice a n c, t, .int .i64 x, .int .i64 y], .pointer (some ⟨bs, 0, none⟩)] w (RetR (rN (kp f g m) x) (rD (kp f g m) x) w) := by
  obtain ⟨W0, hW0⟩ : ∃ W0, (w.alloc (.cells #[.slice a n c, t, .int .i64 x, .int .i64 y] 58)).alloc (.cells #[.int .i64 0, .int .i64 0] 26) = W0 := ⟨_, rfl⟩
  have G0 := Lib.hid (show Gr w W0 by rw [← hW0]; exact ((Gr.refl w).alloc _).alloc _)
  have B := Lib.hid (show Box4 W0 w.heap.size (.slice a n c) t (.int .i64 x) (.int .i64 y) by rw [← hW0]; exact (Box4.new rfl).gr ((Gr.refl _).alloc _))
  have B2 := Lib.hid (show Box2 W0 (w.heap.size + 1) 0 0 by rw [← hW0]; exact Box2.new (by simp))
  have K := kp_bd (f := f) (g := g) (B := 1000) (n := n) (k := m) hf hg
  have C1 := Lib.hid (fun w' (k : Gr w w') => kept_any a a2 n c m c2 f g w' hm (hr.gr k) (hs.gr k) (fun i hi => by have := hf i hi; omega) hg)
  have C2 := Lib.hid (fun w' => ratio_any (kp f g m) x w' ⟨by omega, by omega⟩ ⟨by omega, by omega⟩ hx.1)
  have p4 := G0.out.cell hb
  have lb : bs < w.heap.size := World.block_lt_of_cell? w _ hb
  have ne1 : ¬ (w.heap.size + 1 = bs) := by omega
  have ne2 : ¬ (bs = w.heap.size + 1) := by omega
  obtain ⟨p0, p1, p2, p3, _⟩ := B.out
  obtain ⟨k0, k1, k2, k3⟩ := B2.out
  generalize kp f g m = z at *
  clear hr hs hf hg hb hx K hm
  go_enter Tryd.func76, Tryd.ntmps76
  go_wp2_with fail
  go_region_held3 (fun w' => w'.cell? ⟨w.heap.size, 0, none⟩ = some (.slice a n c) ∧ w'.cell? ⟨w.heap.size, 2, none⟩ = some (.int .i64 x) ∧ w'.cell? ⟨bs, 0, none⟩ = some (.slice a2 m c2))
    (first | exact ⟨p0, p2, p4⟩ | exact ⟨g3.cell p0, g3.cell p2, g3.cell p4⟩ | go_keep)
    (first
      | (go_at_call 64; (with_reducible refine (C1.out _ (by first | exact G0.out | exact G0.out.drew)).mono ?_); rintro e w2 ⟨rfl, rfl⟩)
      | (go_at_call 42; (with_reducible refine (C2.out _).mono ?_); rintro e w3 ⟨rfl, g3⟩; obtain ⟨k0, k1, k2, k3⟩ := (show Box2 w3 (w.heap.size + 1) 0 0 from by first | exact B2.out.gr g3 | exact B2.out.drew.gr g3); have G3 := Lib.hid (show Gr w w3 from by first | exact G0.out.trans g3 | exact G0.out.drew.trans g3)))
  obtain ⟨z0, z1, _⟩ := (show Box2 w3 (w.heap.size + 1) 0 0 from ⟨k0, k1, k2, k3⟩).put (x' := rN z x) (y' := rD z x)
  go_wp2_with fail
  refine bodyPost_ret (v := .agg #[.int .i64 (rN z x), .int .i64 (rD z x)]) (by simp [results, Tryd.results76, go_sem, z0, z1]) rfl ⟨rfl, ?_⟩
  repeat (first | exact G3.out | refine Gr.setCell ?_ (by simp; omega) _ | refine Gr.setCell ?_ (by simp) _ | refine Gr.alloc ?_ _ | refine Gr.drewN ?_ _ | refine Gr.drew ?_)

theorem cf37 (args : Array Value) (wz : World) : (callFunc 76 args).run Tryd.prog wz = .ok (.enter 76 args) wz := by kernel_rfl

set_option maxHeartbeats 1000000 in
theorem Signal1_any (a a2 : Option Addr) (n c m c2 bs : Nat) (t : Value) (f g : Nat → Int) (x y : Int) (w : World) (hm : m ≤ 1000) (hr : RdI w a n f) (hs : RdI w a2 m g)
    (hf : ∀ i, i < n → 0 ≤ f i ∧ f i ≤ 1000) (hg : ∀ i, i < m → 0 ≤ g i ∧ g i < n) (hx : 0 < x ∧ x ≤ 1000000) (hb : w.cell? ⟨bs, 0, none⟩ = some (.slice a2 m c2)) :
    Calls Tryd.prog 77 #[.agg #[t, .slice a n c, .int .i64 y, .int .i64 x], .pointer (some ⟨bs, 0, none⟩)] w (RetR (rN (kp f g m) x) (rD (kp f g m) x) w) := by
  obtain ⟨W0, hW0⟩ : ∃ W0, (w.alloc (.cells #[t, .slice a n c, .int .i64 y, .int .i64 x] 58)).alloc (.cells #[.int .i64 0, .int .i64 0] 26) = W0 := ⟨_, rfl⟩
  have G0 := Lib.hid (show Gr w W0 by rw [← hW0]; exact ((Gr.refl w).alloc _).alloc _)
  have B := Lib.hid (show Box4 W0 w.heap.size t (.slice a n c) (.int .i64 y) (.int .i64 x) by rw [← hW0]; exact (Box4.new rfl).gr ((Gr.refl _).alloc _))
  have B2 := Lib.hid (show Box2 W0 (w.heap.size + 1) 0 0 by rw [← hW0]; exact Box2.new (by simp))
  have K := kp_bd (f := f) (g := g) (B := 1000) (n := n) (k := m) hf hg
  have C1 := Lib.hid (fun w' (k : Gr w w') => kept_any a a2 n c m c2 f g w' hm (hr.gr k) (hs.gr k) (fun i hi => by have := hf i hi; omega) hg)
  have C2 := Lib.hid (fun w' => ratio_any (kp f g m) x w' ⟨by omega, by omega⟩ ⟨by omega, by omega⟩ hx.1)
  have p4 := G0.out.cell hb
  have lb : bs < w.heap.size := World.block_lt_of_cell? w _ hb
  have ne1 : ¬ (w.heap.size + 1 = bs) := by omega
  have ne2 : ¬ (bs = w.heap.size + 1) := by omega
  obtain ⟨p0, p1, p2, p3, _⟩ := B.out
  obtain ⟨k0, k1, k2, k3⟩ := B2.out
  generalize kp f g m = z at *
  clear hr hs hf hg hb hx K hm
  go_enter Tryd.func77, Tryd.ntmps77
  go_wp2_with fail
  go_region_held3 (fun w' => w'.cell? ⟨w.heap.size, 1, none⟩ = some (.slice a n c) ∧ w'.cell? ⟨w.heap.size, 3, none⟩ = some (.int .i64 x) ∧ w'.cell? ⟨bs, 0, none⟩ = some (.slice a2 m c2))
    (first | exact ⟨p1, p3, p4⟩ | exact ⟨g3.cell p1, g3.cell p3, g3.cell p4⟩ | go_keep)
    (first
      | (go_at_call 64; (with_reducible refine (C1.out _ (by first | exact G0.out | exact G0.out.drew)).mono ?_); rintro e w2 ⟨rfl, rfl⟩)
      | (go_at_call 42; (with_reducible refine (C2.out _).mono ?_); rintro e w3 ⟨rfl, g3⟩; obtain ⟨k0, k1, k2, k3⟩ := (show Box2 w3 (w.heap.size + 1) 0 0 from by first | exact B2.out.gr g3 | exact B2.out.drew.gr g3); have G3 := Lib.hid (show Gr w w3 from by first | exact G0.out.trans g3 | exact G0.out.drew.trans g3)))
  obtain ⟨z0, z1, _⟩ := (show Box2 w3 (w.heap.size + 1) 0 0 from ⟨k0, k1, k2, k3⟩).put (x' := rN z x) (y' := rD z x)
  go_wp2_with fail
  refine bodyPost_ret (v := .agg #[.int .i64 (rN z x), .int .i64 (rD z x)]) (by simp [results, Tryd.results77, go_sem, z0, z1]) rfl ⟨rfl, ?_⟩
  repeat (first | exact G3.out | refine Gr.setCell ?_ (by simp; omega) _ | refine Gr.setCell ?_ (by simp) _ | refine Gr.alloc ?_ _ | refine Gr.drewN ?_ _ | refine Gr.drew ?_)

theorem cf44 (args : Array Value) (wz : World) : (callFunc 77 args).run Tryd.prog wz = .ok (.enter 77 args) wz := by kernel_rfl

/-- The error of odds and a cut. -/
def askE (n m : Nat) (f g : Nat → Int) (q : Nat) (h : Nat → Int) : Int := if vO n m f g then (if cutB n q h then 0 else 2) else 70
def okN (E x : Int) : Int := if E = 0 then x else 0
theorem askE_no {n m : Nat} {f g : Nat → Int} {q : Nat} {h : Nat → Int} (hv : vO n m f g = false) : askE n m f g q h = 70 := by unfold askE; rw [hv]; rfl
theorem askE_bad {n m : Nat} {f g : Nat → Int} {q : Nat} {h : Nat → Int} (hv : vO n m f g = true) (hc : cutB n q h = false) : askE n m f g q h = 2 := by unfold askE; rw [hv, hc]; rfl
theorem askE_ok {n m : Nat} {f g : Nat → Int} {q : Nat} {h : Nat → Int} (hv : vO n m f g = true) (hc : cutB n q h = true) : askE n m f g q h = 0 := by unfold askE; rw [hv, hc]; rfl

set_option maxHeartbeats 2000000 in
theorem asked_any (F : Nat) (u : Value) (hcf : ∀ (args : Array Value) (wz : World), (callFunc F args).run Tryd.prog wz = .ok (.enter F args) wz)
    (a a2 a3 : Option Addr) (n c m d q c3 : Nat) (f g h : Nat → Int) (P Q : Int) (w : World) (hn : n ≤ 1000) (hm : m ≤ 1000) (hq : q ≤ 1000) (hr : RdI w a n f) (hs : RdI w a2 m g) (ht : RdI w a3 q h)
    (H : vO n m f g = true → cutB n q h = true → ∀ wz, Gr w wz → Calls Tryd.prog F #[.agg #[.slice a n c, .slice a2 m d, .int .i64 (sm f n), .int .i64 (sm g m)], u] wz (RetR P Q wz)) :
    Calls Tryd.prog 75 #[.agg #[.slice a n c, .slice a2 m d], .slice a3 q c3, .func (.func F) #[] #[u]] w
      (RetRE (okN (askE n m f g q h) P) (okN (askE n m f g q h) Q) (askE n m f g q h) w) := by
  obtain ⟨W0, hW0⟩ : ∃ W0, (w.alloc (.cells #[.slice a n c, .slice a2 m d] 24)).alloc (.cells #[.int .i64 0, .int .i64 0] 26) = W0 := ⟨_, rfl⟩
  have G0 := Lib.hid (show Gr w W0 by rw [← hW0]; exact ((Gr.refl w).alloc _).alloc _)
  have B1 := Lib.hid (show BoxO W0 w.heap.size (.slice a n c) (.slice a2 m d) by rw [← hW0]; exact (BoxO.new rfl).gr ((Gr.refl _).alloc _))
  have B2 := Lib.hid (show Box2 W0 (w.heap.size + 1) 0 0 by rw [← hW0]; exact Box2.new (by simp))
  obtain ⟨p0, p1⟩ := B1.out
  cases hv : vO n m f g with
  | false =>
    have E := Lib.hid (askE_no (q := q) (h := h) hv)
    have C := Lib.hid (fun w' (k : Gr w w') => newOdds_no a a2 n c m d f g w' hn hm (hr.gr k) (hs.gr k) hv)
    rw [E.out]
    clear hr hs ht hv H
    go_enter Tryd.func75, Tryd.ntmps75
    go_wp2_with (go_at_call 51; (with_reducible refine (C.out _ G0.out).mono ?_); rintro e w1 ⟨rfl, g1⟩; have g1' := g1.alloc (.cells #[.slice none 0 0, .slice none 0 0, .int .i64 0, .int .i64 0] 58); have G1 := Lib.hid (G0.out.trans g1'); have N1 := Lib.hid (World.block_lt_of_cell? w1 _ (B2.out.gr g1).1); obtain ⟨k0, k1, k2, k3⟩ := B2.out.gr g1'; clear g1 g1')
    obtain ⟨z0, z1, _⟩ := (show Box2 (w1.alloc (.cells #[.slice none 0 0, .slice none 0 0, .int .i64 0, .int .i64 0] 58)) (w.heap.size + 1) 0 0 from ⟨k0, k1, k2, k3⟩).put (x' := 0) (y' := 0)
    refine bodyPost_ret (v := .tuple #[.agg #[.int .i64 0, .int .i64 0], .int .i64 70]) (by simp [results, Tryd.results75, go_sem, z0, z1]) rfl ⟨rfl, ?_⟩
    repeat (first | exact G1.out | refine Gr.setCell ?_ (by simp; omega) _ | refine Gr.setCell ?_ (by simp) _ | refine Gr.alloc ?_ _ | refine Gr.drewN ?_ _ | refine Gr.drew ?_)
  | true =>
    have C := Lib.hid (fun w' (k : Gr w w') => newOdds_ok a a2 n c m d f g w' hn hm (hr.gr k) (hs.gr k) hv)
    have HT := Lib.hid ht
    have C1 := Lib.hid (fun w' (k : Gr w w') => isCut_any a a3 n c q c3 (.slice a2 m d) (.int .i64 (sm f n)) (.int .i64 (sm g m)) h w' hn hq (ht.gr k))
    cases hc : cutB n q h with
    | false =>
      have E := Lib.hid (askE_bad hv hc)
      rw [E.out]
      rw [hc] at C1
      clear hr hs ht hv H hc
      generalize sm f n = sf at *
      generalize sm g m = sg at *
      go_enter Tryd.func75, Tryd.ntmps75
      go_wp2_with (first
        | (go_at_call 51; (with_reducible refine (C.out _ G0.out).mono ?_); rintro e w1 ⟨rfl, g1⟩; have g1' := g1.alloc (.cells #[.slice a n c, .slice a2 m d, .int .i64 sf, .int .i64 sg] 58); have G1 := Lib.hid (G0.out.trans g1'); have g2' := g1.alloc (.cells #[.slice none 0 0, .slice none 0 0, .int .i64 0, .int .i64 0] 58); have B3 := Lib.hid (show Box4 (w1.alloc (.cells #[.slice a n c, .slice a2 m d, .int .i64 sf, .int .i64 sg] 58)) w1.heap.size (.slice a n c) (.slice a2 m d) (.int .i64 sf) (.int .i64 sg) from Box4.new rfl); have B2 := Lib.hid (B2.out.gr g1'); obtain ⟨r0, r1, r2, r3, _⟩ := B3.out; clear g1 g1' g2')
        | (go_at_call 70; (with_reducible refine (C1.out _ G1.out).mono ?_); rintro e w2 ⟨rfl, g2⟩; have G2 := Lib.hid (G1.out.trans g2); have B2 := Lib.hid (B2.out.gr g2); obtain ⟨k0, k1, k2, k3⟩ := B2.out; clear g2))
      obtain ⟨z0, z1, _⟩ := (show Box2 w2 (w.heap.size + 1) 0 0 from ⟨k0, k1, k2, k3⟩).put (x' := 0) (y' := 0)
      refine bodyPost_ret (v := .tuple #[.agg #[.int .i64 0, .int .i64 0], .int .i64 2]) (by simp [results, Tryd.results75, go_sem, z0, z1]) rfl ⟨rfl, ?_⟩
      repeat (first | exact G2.out | refine Gr.setCell ?_ (by simp; omega) _ | refine Gr.setCell ?_ (by simp) _ | refine Gr.alloc ?_ _ | refine Gr.drewN ?_ _ | refine Gr.drew ?_)
    | true =>
      have E := Lib.hid (askE_ok hv hc)
      have CF := Lib.hid (fun w' (k : Gr w w') => H hv hc w' k)
      have e1 : okN 0 P = P := rfl
      have e2 : okN 0 Q = Q := rfl
      rw [E.out, e1, e2]
      rw [hc] at C1
      clear hr hs ht hv H hc e1 e2
      generalize sm f n = sf at *
      generalize sm g m = sg at *
      go_enter Tryd.func75, Tryd.ntmps75
      go_wp2_with (first
        | (go_at_call 51; (with_reducible refine (C.out _ G0.out).mono ?_); rintro e w1 ⟨rfl, g1⟩; have g1' := g1.alloc (.cells #[.slice a n c, .slice a2 m d, .int .i64 sf, .int .i64 sg] 58); have G1 := Lib.hid (G0.out.trans g1'); have B3 := Lib.hid (show Box4 (w1.alloc (.cells #[.slice a n c, .slice a2 m d, .int .i64 sf, .int .i64 sg] 58)) w1.heap.size (.slice a n c) (.slice a2 m d) (.int .i64 sf) (.int .i64 sg) from Box4.new rfl); have B2 := Lib.hid (B2.out.gr g1'); obtain ⟨r0, r1, r2, r3, _⟩ := B3.out; clear g1 g1')
        | (go_at_call 70; (with_reducible refine (C1.out _ G1.out).mono ?_); rintro e w2 ⟨rfl, g2⟩; have G2 := Lib.hid (G1.out.trans g2); have B2 := Lib.hid (B2.out.gr g2); obtain ⟨r0, r1, r2, r3, _⟩ := B3.out.gr g2; clear g2))
      refine (CF.out _ G2.out).mono ?_
      rintro e w3 ⟨rfl, g3⟩
      have G3 := Lib.hid (G2.out.trans g3)
      obtain ⟨k0, k1, k2, k3⟩ := B2.out.gr g3
      clear g3
      go_wp2_with fail
      obtain ⟨z0, z1, _⟩ := (show Box2 w3 (w.heap.size + 1) 0 0 from ⟨k0, k1, k2, k3⟩).put (x' := P) (y' := Q)
      refine bodyPost_ret (v := .tuple #[.agg #[.int .i64 P, .int .i64 Q], .int .i64 0]) (by simp [results, Tryd.results75, go_sem, z0, z1]) rfl ⟨rfl, ?_⟩
      repeat (first | exact G3.out | refine Gr.setCell ?_ (by simp; omega) _ | refine Gr.setCell ?_ (by simp) _ | refine Gr.alloc ?_ _ | refine Gr.drewN ?_ _ | refine Gr.drew ?_)

end Go.Proofs.YtohcnicadbpbbaaDoor
