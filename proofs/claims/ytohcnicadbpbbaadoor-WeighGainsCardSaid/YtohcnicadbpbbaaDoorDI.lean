/- Contracts of chapter 7: the dearest cut, and whether a price proves a cut, of the program and of the reference. -/
import Derived.Test.YtohcnicadbpbbaaDoorDH
namespace Go.Proofs.YtohcnicadbpbbaaDoor
open Go.RowKit Go.Firn

theorem cut_nil (n : Nat) (h : Nat → Int) : Cut n 0 h := cutB_iff.1 (by unfold cutB; rfl)
/-- The first error of odds and a price. -/
def deE (n m : Nat) (f g : Nat → Int) (P D : Int) : Int := prE n m f g 0 (fun _ => 0) P D

set_option maxHeartbeats 2000000 in
theorem Dearest_err (a a2 : Option Addr) (n c m d : Nat) (f g : Nat → Int) (P D : Int) (w : World) (hn : n ≤ 1000) (hm : m ≤ 1000) (hr : RdI w a n f) (hs : RdI w a2 m g) (hE : deE n m f g P D ≠ 0) :
    Calls Tryd.prog 12 #[.agg #[.slice a n c, .slice a2 m d], .agg #[.int .i64 P, .int .i64 D]] w (RetIs 0 (fun _ => 0) (deE n m f g P D) w) := by
  obtain ⟨W0, hW0⟩ : ∃ W0, (w.alloc (.cells #[.slice a n c, .slice a2 m d] 24)).alloc (.cells #[.int .i64 P, .int .i64 D] 26) = W0 := ⟨_, rfl⟩
  have G0 := Lib.hid (show Gr w W0 by rw [← hW0]; exact ((Gr.refl w).alloc _).alloc _)
  have B1 := Lib.hid (show BoxO W0 w.heap.size (.slice a n c) (.slice a2 m d) by rw [← hW0]; exact (BoxO.new rfl).gr ((Gr.refl _).alloc _))
  have B2 := Lib.hid (show Box2 W0 (w.heap.size + 1) P D by rw [← hW0]; exact Box2.new (by simp))
  have hwz := Lib.hid (show w.heap.size + 1 < W0.heap.size by rw [← hW0]; simp)
  obtain ⟨p0, p1⟩ := B1.out
  obtain ⟨s0, s1, _⟩ := B2.out
  have C := Lib.hid (priced_err a a2 none n c m d 0 0 f g (fun _ => 0) P D W0 hn hm (by omega) (hr.gr G0.out) (hs.gr G0.out) (.inl rfl) hE)
  unfold deE at *
  generalize prE n m f g 0 (fun _ => 0) P D = E at *
  have e1 : (E == 0) = false := by simpa using hE
  have e2 : (E != 0) = true := by simpa using hE
  clear hr hs hE hwz
  go_enter Tryd.func12, Tryd.ntmps12
  go_wp2_with (go_at_call 41; (with_reducible refine C.out.mono ?_); rintro e w1 ⟨b, c4, b1, b2, c5, c6, x, y, rfl, g1⟩; have g1' := g1.alloc (.cells #[.slice b b1 b2, .slice c4 c5 c6, .int .i64 x, .int .i64 y] 58); obtain ⟨W1, hW1⟩ : ∃ W1, w1.alloc (.cells #[.slice b b1 b2, .slice c4 c5 c6, .int .i64 x, .int .i64 y] 58) = W1 := ⟨_, rfl⟩; rw [hW1] at g1'; have G1 := Lib.hid (G0.out.trans g1'); clear g1 g1')
  refine bodyPost_ret (v := .tuple #[.slice none 0 0, .int .i64 E]) (by simp [results, Tryd.results12, go_sem]) rfl ⟨none, 0, rfl, Nat.le_refl _, by unfold maxLen; omega, .inl rfl, ?_⟩
  repeat (first | exact G1.out | refine Gr.setCell ?_ (by simp; omega) _ | refine Gr.setCell ?_ (by simp) _ | refine Gr.alloc ?_ _ | refine Gr.drewN ?_ _ | refine Gr.drew ?_)

set_option maxHeartbeats 2000000 in
theorem Dearest_ok (a a2 : Option Addr) (n c d : Nat) (f g : Nat → Int) (P D : Int) (w : World) (hr : RdI w a n f) (hs : RdI w a2 n g) (hv : VO n n f g) (hp : Prc P D) (hT : Tab w) :
    Calls Tryd.prog 12 #[.agg #[.slice a n c, .slice a2 n d], .agg #[.int .i64 P, .int .i64 D]] w (RetIs (cS n (drB f g n P D)).length (nf (cS n (drB f g n P D))) 0 w) := by
  have n10 := hv.noise.few
  obtain ⟨W0, hW0⟩ : ∃ W0, (w.alloc (.cells #[.slice a n c, .slice a2 n d] 24)).alloc (.cells #[.int .i64 P, .int .i64 D] 26) = W0 := ⟨_, rfl⟩
  have G0 := Lib.hid (show Gr w W0 by rw [← hW0]; exact ((Gr.refl w).alloc _).alloc _)
  have B1 := Lib.hid (show BoxO W0 w.heap.size (.slice a n c) (.slice a2 n d) by rw [← hW0]; exact (BoxO.new rfl).gr ((Gr.refl _).alloc _))
  have B2 := Lib.hid (show Box2 W0 (w.heap.size + 1) P D by rw [← hW0]; exact Box2.new (by simp))
  have hwz := Lib.hid (show w.heap.size + 1 < W0.heap.size by rw [← hW0]; simp)
  obtain ⟨p0, p1⟩ := B1.out
  obtain ⟨s0, s1, _⟩ := B2.out
  have C := Lib.hid (show Calls Tryd.prog 41 #[.agg #[.slice a n c, .slice a2 n d], .slice none 0 0, .agg #[.int .i64 P, .int .i64 D]] W0 (RetO (.slice a n c) (.slice a2 n d) (sm f n) (sm g n) 0 W0) from by
    have h := priced_any a a2 none n c d 0 0 f g (fun _ => 0) P D W0 (by omega) (by omega) (hr.gr G0.out) (hs.gr G0.out) (.inl rfl) (vO_iff.2 hv)
    rwa [prE_ok (vO_iff.2 hv) (cutB_iff.2 (cut_nil n _)) (prB_iff.2 hp)] at h)
  have CD := Lib.hid (fun w' (k : Gr w w') => dearest_any a a2 n c d f g P D w' (hr.gr k) (hs.gr k) hv hp (hT.gr k))
  clear hr hs hv hp hT hwz
  generalize sm f n = sf at *
  generalize sm g n = sg at *
  generalize cS n (drB f g n P D) = L at *
  go_enter Tryd.func12, Tryd.ntmps12
  go_wp2_with (first
    | (go_at_call 41; (with_reducible refine C.out.mono ?_); rintro e w1 ⟨rfl, g1⟩; have g1' := g1.alloc (.cells #[.slice a n c, .slice a2 n d, .int .i64 sf, .int .i64 sg] 58); obtain ⟨W1, hW1⟩ : ∃ W1, w1.alloc (.cells #[.slice a n c, .slice a2 n d, .int .i64 sf, .int .i64 sg] 58) = W1 := ⟨_, rfl⟩; rw [hW1] at g1'; have G1 := Lib.hid (G0.out.trans g1'); have X1 := Lib.hid (show Box4 W1 w1.heap.size (.slice a n c) (.slice a2 n d) (.int .i64 sf) (.int .i64 sg) by rw [← hW1]; exact Box4.new rfl); have P1 := Lib.hid (B2.out.gr g1'); clear g1 g1' p0 p1 s0 s1; obtain ⟨s0, s1, _⟩ := P1.out; obtain ⟨r0, r1, r2, r3, _⟩ := X1.out)
    | (go_at_call 46; (with_reducible refine (CD.out _ G1.out).mono ?_); rintro e w2 ⟨av, cv, rfl, l1, l2, l3, g2⟩; have L3 := Lib.hid l3; have G2 := Lib.hid (G1.out.trans g2); clear g2 l3))
  refine bodyPost_ret (v := .tuple #[.slice av L.length cv, .int .i64 0]) (by simp [results, Tryd.results12, go_sem]) rfl ⟨av, cv, rfl, l1, l2, L3.out, G2.out⟩

set_option maxHeartbeats 2000000 in
theorem refDearest_err (a a2 : Option Addr) (n c m d : Nat) (f g : Nat → Int) (P D : Int) (w : World) (hn : n ≤ 1000) (hm : m ≤ 1000) (hr : RdI w a n f) (hs : RdI w a2 m g) (hE : deE n m f g P D ≠ 0) :
    Calls Tryd.prog 13 #[.agg #[.slice a n c, .slice a2 m d], .agg #[.int .i64 P, .int .i64 D]] w (RetIs 0 (fun _ => 0) (deE n m f g P D) w) := by
  obtain ⟨W0, hW0⟩ : ∃ W0, (w.alloc (.cells #[.slice a n c, .slice a2 m d] 24)).alloc (.cells #[.int .i64 P, .int .i64 D] 26) = W0 := ⟨_, rfl⟩
  have G0 := Lib.hid (show Gr w W0 by rw [← hW0]; exact ((Gr.refl w).alloc _).alloc _)
  have B1 := Lib.hid (show BoxO W0 w.heap.size (.slice a n c) (.slice a2 m d) by rw [← hW0]; exact (BoxO.new rfl).gr ((Gr.refl _).alloc _))
  have B2 := Lib.hid (show Box2 W0 (w.heap.size + 1) P D by rw [← hW0]; exact Box2.new (by simp))
  have hwz := Lib.hid (show w.heap.size + 1 < W0.heap.size by rw [← hW0]; simp)
  obtain ⟨p0, p1⟩ := B1.out
  obtain ⟨s0, s1, _⟩ := B2.out
  have C := Lib.hid (refValid_any a a2 n c m d f g W0 hn hm (hr.gr G0.out) (hs.gr G0.out))
  have CP := Lib.hid (fun w' => IsPrice_any P D w')
  cases hv : vO n m f g with
  | false =>
    have E := Lib.hid (show deE n m f g P D = 70 from prE_no hv)
    rw [E.out]
    rw [hv] at C
    clear hr hs hE hwz hv E
    go_enter Tryd.func13, Tryd.ntmps13
    go_wp2_with (go_at_call 17; (with_reducible refine C.out.mono ?_); rintro e w1 ⟨rfl, g1⟩; have G1 := Lib.hid (G0.out.trans g1); clear g1)
    refine bodyPost_ret (v := .tuple #[.slice none 0 0, .int .i64 70]) (by simp [results, Tryd.results13, go_sem]) rfl ⟨none, 0, rfl, Nat.le_refl _, by unfold maxLen; omega, .inl rfl, ?_⟩
    repeat (first | exact G1.out | refine Gr.setCell ?_ (by simp; omega) _ | refine Gr.setCell ?_ (by simp) _ | refine Gr.alloc ?_ _ | refine Gr.drewN ?_ _ | refine Gr.drew ?_)
  | true =>
    have hb : prB P D = false := by
      cases hb : prB P D with
      | false => rfl
      | true => exact absurd (prE_ok hv (cutB_iff.2 (cut_nil n _)) hb) hE
    have E := Lib.hid (show deE n m f g P D = 2 from prE_price hv (cutB_iff.2 (cut_nil n _)) hb)
    rw [E.out]
    rw [hv] at C
    rw [hb] at CP
    clear hr hs hE hwz hv hb E
    go_enter Tryd.func13, Tryd.ntmps13
    go_wp2_with (first
      | (go_at_call 17; (with_reducible refine C.out.mono ?_); rintro e w1 ⟨rfl, g1⟩; have G1 := Lib.hid (G0.out.trans g1); have P1 := Lib.hid (B2.out.gr g1); clear g1 s0 s1; obtain ⟨s0, s1, _⟩ := P1.out)
      | (go_at_call 19; (with_reducible refine (CP.out _).mono ?_); rintro e w2 ⟨rfl, g2⟩; have G2 := Lib.hid (G1.out.trans g2); clear g2))
    refine bodyPost_ret (v := .tuple #[.slice none 0 0, .int .i64 2]) (by simp [results, Tryd.results13, go_sem]) rfl ⟨none, 0, rfl, Nat.le_refl _, by unfold maxLen; omega, .inl rfl, ?_⟩
    repeat (first | exact G2.out | refine Gr.setCell ?_ (by simp; omega) _ | refine Gr.setCell ?_ (by simp) _ | refine Gr.alloc ?_ _ | refine Gr.drewN ?_ _ | refine Gr.drew ?_)

set_option maxHeartbeats 2000000 in
theorem refDearest_ok (a a2 : Option Addr) (n c d : Nat) (f g : Nat → Int) (P D : Int) (w : World) (hr : RdI w a n f) (hs : RdI w a2 n g) (hv : VO n n f g) (hp : Prc P D) :
    Calls Tryd.prog 13 #[.agg #[.slice a n c, .slice a2 n d], .agg #[.int .i64 P, .int .i64 D]] w (RetIs (cS n (drB f g n P D)).length (nf (cS n (drB f g n P D))) 0 w) := by
  have n10 := hv.noise.few
  obtain ⟨W0, hW0⟩ : ∃ W0, (w.alloc (.cells #[.slice a n c, .slice a2 n d] 24)).alloc (.cells #[.int .i64 P, .int .i64 D] 26) = W0 := ⟨_, rfl⟩
  have G0 := Lib.hid (show Gr w W0 by rw [← hW0]; exact ((Gr.refl w).alloc _).alloc _)
  have B1 := Lib.hid (show BoxO W0 w.heap.size (.slice a n c) (.slice a2 n d) by rw [← hW0]; exact (BoxO.new rfl).gr ((Gr.refl _).alloc _))
  have B2 := Lib.hid (show Box2 W0 (w.heap.size + 1) P D by rw [← hW0]; exact Box2.new (by simp))
  have hwz := Lib.hid (show w.heap.size + 1 < W0.heap.size by rw [← hW0]; simp)
  obtain ⟨p0, p1⟩ := B1.out
  obtain ⟨s0, s1, _⟩ := B2.out
  have C := Lib.hid (show Calls Tryd.prog 17 #[.agg #[.slice a n c, .slice a2 n d]] W0 (RetB true W0) from by
    have h := refValid_any a a2 n c n d f g W0 (by omega) (by omega) (hr.gr G0.out) (hs.gr G0.out)
    rwa [vO_iff.2 hv] at h)
  have CP := Lib.hid (show ∀ w', Calls Tryd.prog 19 #[.agg #[.int .i64 P, .int .i64 D]] w' (RetB true w') from fun w' => by
    have h := IsPrice_any P D w'
    rwa [prB_iff.2 hp] at h)
  have CD := Lib.hid (fun w' (k : Gr w w') => refdearest_any a a2 n c d f g P D w' (hr.gr k) (hs.gr k) hv hp)
  clear hr hs hv hp hwz
  generalize cS n (drB f g n P D) = L at *
  go_enter Tryd.func13, Tryd.ntmps13
  go_wp2_with (first
    | (go_at_call 17; (with_reducible refine C.out.mono ?_); rintro e w1 ⟨rfl, g1⟩; have G1 := Lib.hid (G0.out.trans g1); have P1 := Lib.hid (B2.out.gr g1); have O1 := Lib.hid (B1.out.gr g1); clear g1 s0 s1 p0 p1; obtain ⟨s0, s1, _⟩ := P1.out)
    | (go_at_call 19; (with_reducible refine (CP.out _).mono ?_); rintro e w2 ⟨rfl, g2⟩; have G2 := Lib.hid (G1.out.trans g2); have P2 := Lib.hid (P1.out.gr g2); have O2 := Lib.hid (O1.out.gr g2); clear g2 s0 s1; obtain ⟨s0, s1, _⟩ := P2.out; obtain ⟨p0, p1⟩ := O2.out)
    | (go_at_call 47; (with_reducible refine (CD.out _ G2.out).mono ?_); rintro e w3 ⟨av, cv, rfl, l1, l2, l3, g3⟩; have L3 := Lib.hid l3; have G3 := Lib.hid (G2.out.trans g3); clear g3 l3))
  refine bodyPost_ret (v := .tuple #[.slice av L.length cv, .int .i64 0]) (by simp [results, Tryd.results13, go_sem]) rfl ⟨av, cv, rfl, l1, l2, L3.out, G3.out⟩

/-- A bool and an error. -/
def RetBE (b : Bool) (E : Int) (w : World) (e : Ending) (w' : World) : Prop := e = .returned (.tuple #[.bool b, .int .i64 E]) ∧ Gr w w'

set_option maxHeartbeats 2000000 in
theorem Proves_err (a a2 a3 : Option Addr) (n c m d q c3 : Nat) (f g h : Nat → Int) (P D : Int) (w : World) (hn : n ≤ 1000) (hm : m ≤ 1000) (hq : q ≤ 1000) (hr : RdI w a n f) (hs : RdI w a2 m g) (ht : RdI w a3 q h) (hE : prE n m f g q h P D ≠ 0) :
    Calls Tryd.prog 14 #[.agg #[.slice a n c, .slice a2 m d], .slice a3 q c3, .agg #[.int .i64 P, .int .i64 D]] w (RetBE false (prE n m f g q h P D) w) := by
  obtain ⟨W0, hW0⟩ : ∃ W0, (w.alloc (.cells #[.slice a n c, .slice a2 m d] 24)).alloc (.cells #[.int .i64 P, .int .i64 D] 26) = W0 := ⟨_, rfl⟩
  have G0 := Lib.hid (show Gr w W0 by rw [← hW0]; exact ((Gr.refl w).alloc _).alloc _)
  have B1 := Lib.hid (show BoxO W0 w.heap.size (.slice a n c) (.slice a2 m d) by rw [← hW0]; exact (BoxO.new rfl).gr ((Gr.refl _).alloc _))
  have B2 := Lib.hid (show Box2 W0 (w.heap.size + 1) P D by rw [← hW0]; exact Box2.new (by simp))
  have hwz := Lib.hid (show w.heap.size + 1 < W0.heap.size by rw [← hW0]; simp)
  obtain ⟨p0, p1⟩ := B1.out
  obtain ⟨s0, s1, _⟩ := B2.out
  have C := Lib.hid (priced_err a a2 a3 n c m d q c3 f g h P D W0 hn hm hq (hr.gr G0.out) (hs.gr G0.out) (ht.gr G0.out) hE)
  generalize prE n m f g q h P D = E at *
  have e1 : (E == 0) = false := by simpa using hE
  have e2 : (E != 0) = true := by simpa using hE
  clear hr hs ht hE hwz
  go_enter Tryd.func14, Tryd.ntmps14
  go_wp2_with (go_at_call 41; (with_reducible refine C.out.mono ?_); rintro e w1 ⟨b, c4, b1, b2, c5, c6, x, y, rfl, g1⟩; have g1' := g1.alloc (.cells #[.slice b b1 b2, .slice c4 c5 c6, .int .i64 x, .int .i64 y] 58); obtain ⟨W1, hW1⟩ : ∃ W1, w1.alloc (.cells #[.slice b b1 b2, .slice c4 c5 c6, .int .i64 x, .int .i64 y] 58) = W1 := ⟨_, rfl⟩; rw [hW1] at g1'; have G1 := Lib.hid (G0.out.trans g1'); clear g1 g1')
  refine bodyPost_ret (v := .tuple #[.bool false, .int .i64 E]) (by simp [results, Tryd.results14, go_sem]) rfl ⟨rfl, ?_⟩
  repeat (first | exact G1.out | refine Gr.setCell ?_ (by simp; omega) _ | refine Gr.setCell ?_ (by simp) _ | refine Gr.alloc ?_ _ | refine Gr.drewN ?_ _ | refine Gr.drew ?_)

set_option maxHeartbeats 2000000 in
theorem refProves_err (a a2 a3 : Option Addr) (n c m d q c3 : Nat) (f g h : Nat → Int) (P D : Int) (w : World) (hn : n ≤ 1000) (hm : m ≤ 1000) (hq : q ≤ 1000) (hr : RdI w a n f) (hs : RdI w a2 m g) (ht : RdI w a3 q h) (hE : prE n m f g q h P D ≠ 0) :
    Calls Tryd.prog 15 #[.agg #[.slice a n c, .slice a2 m d], .slice a3 q c3, .agg #[.int .i64 P, .int .i64 D]] w (RetBE false (prE n m f g q h P D) w) := by
  obtain ⟨W0, hW0⟩ : ∃ W0, (w.alloc (.cells #[.slice a n c, .slice a2 m d] 24)).alloc (.cells #[.int .i64 P, .int .i64 D] 26) = W0 := ⟨_, rfl⟩
  have G0 := Lib.hid (show Gr w W0 by rw [← hW0]; exact ((Gr.refl w).alloc _).alloc _)
  have B1 := Lib.hid (show BoxO W0 w.heap.size (.slice a n c) (.slice a2 m d) by rw [← hW0]; exact (BoxO.new rfl).gr ((Gr.refl _).alloc _))
  have B2 := Lib.hid (show Box2 W0 (w.heap.size + 1) P D by rw [← hW0]; exact Box2.new (by simp))
  have hwz := Lib.hid (show w.heap.size + 1 < W0.heap.size by rw [← hW0]; simp)
  obtain ⟨p0, p1⟩ := B1.out
  obtain ⟨s0, s1, _⟩ := B2.out
  have C := Lib.hid (refasked_any a a2 a3 n c m d q c3 f g h W0 hn hm hq (hr.gr G0.out) (hs.gr G0.out) (ht.gr G0.out))
  have CP := Lib.hid (fun w' => IsPrice_any P D w')
  unfold prE at hE ⊢
  clear hr hs ht hwz
  by_cases hA : askE n m f g q h = 0
  · rw [if_pos hA] at hE ⊢
    have hb : prB P D = false := by
      cases hb : prB P D with
      | false => rfl
      | true => rw [hb] at hE; exact absurd rfl hE
    rw [hb] at CP ⊢
    rw [hA] at C
    rw [show (if false = true then 0 else 2 : Int) = 2 from rfl]
    clear hb hE hA
    go_enter Tryd.func15, Tryd.ntmps15
    go_wp2_with (first
      | (go_at_call 44; (with_reducible refine C.out.mono ?_); rintro e w1 ⟨rfl, g1⟩; have G1 := Lib.hid (G0.out.trans g1); have P1 := Lib.hid (B2.out.gr g1); clear g1 p0 p1 s0 s1; obtain ⟨s0, s1, _⟩ := P1.out)
      | (go_at_call 19; (with_reducible refine (CP.out _).mono ?_); rintro e w2 ⟨rfl, g2⟩; have G2 := Lib.hid (G1.out.trans g2); clear g2))
    refine bodyPost_ret (v := .tuple #[.bool false, .int .i64 2]) (by simp [results, Tryd.results15, go_sem]) rfl ⟨rfl, ?_⟩
    repeat (first | exact G2.out | refine Gr.setCell ?_ (by simp; omega) _ | refine Gr.setCell ?_ (by simp) _ | refine Gr.alloc ?_ _ | refine Gr.drewN ?_ _ | refine Gr.drew ?_)
  · rw [if_neg hA]
    clear hE
    generalize askE n m f g q h = E at *
    have e1 : (E == 0) = false := by simpa using hA
    have e2 : (E != 0) = true := by simpa using hA
    clear hA
    go_enter Tryd.func15, Tryd.ntmps15
    go_wp2_with (go_at_call 44; (with_reducible refine C.out.mono ?_); rintro e w1 ⟨rfl, g1⟩; have G1 := Lib.hid (G0.out.trans g1); clear g1)
    refine bodyPost_ret (v := .tuple #[.bool false, .int .i64 E]) (by simp [results, Tryd.results15, go_sem]) rfl ⟨rfl, ?_⟩
    repeat (first | exact G1.out | refine Gr.setCell ?_ (by simp; omega) _ | refine Gr.setCell ?_ (by simp) _ | refine Gr.alloc ?_ _ | refine Gr.drewN ?_ _ | refine Gr.drew ?_)

/-- The gain of the dearest cut. -/
def topV (f g : Nat → Int) (n : Nat) (P D : Int) : Int := gS f g n P D (drB f g n P D)

set_option maxHeartbeats 4000000 in
theorem Proves_ok (a a2 a3 : Option Addr) (n c d q c3 : Nat) (f g h : Nat → Int) (P D : Int) (w : World) (hr : RdI w a n f) (hs : RdI w a2 n g) (ht : RdI w a3 q h) (hv : VO n n f g) (hc : Cut n q h) (hp : Prc P D) (hT : Tab w) :
    Calls Tryd.prog 14 #[.agg #[.slice a n c, .slice a2 n d], .slice a3 q c3, .agg #[.int .i64 P, .int .i64 D]] w (RetBE (gnV f g n P D h q == topV f g n P D) 0 w) := by
  have n10 := hv.noise.few
  have q10 := hc.few
  obtain ⟨W0, hW0⟩ : ∃ W0, (w.alloc (.cells #[.slice a n c, .slice a2 n d] 24)).alloc (.cells #[.int .i64 P, .int .i64 D] 26) = W0 := ⟨_, rfl⟩
  have G0 := Lib.hid (show Gr w W0 by rw [← hW0]; exact ((Gr.refl w).alloc _).alloc _)
  have B1 := Lib.hid (show BoxO W0 w.heap.size (.slice a n c) (.slice a2 n d) by rw [← hW0]; exact (BoxO.new rfl).gr ((Gr.refl _).alloc _))
  have B2 := Lib.hid (show Box2 W0 (w.heap.size + 1) P D by rw [← hW0]; exact Box2.new (by simp))
  have hwz := Lib.hid (show w.heap.size + 1 < W0.heap.size by rw [← hW0]; simp)
  obtain ⟨p0, p1⟩ := B1.out
  obtain ⟨s0, s1, _⟩ := B2.out
  have C := Lib.hid (show Calls Tryd.prog 41 #[.agg #[.slice a n c, .slice a2 n d], .slice a3 q c3, .agg #[.int .i64 P, .int .i64 D]] W0 (RetO (.slice a n c) (.slice a2 n d) (sm f n) (sm g n) 0 W0) from by
    have h := priced_any a a2 a3 n c d q c3 f g h P D W0 (by omega) (by omega) (hr.gr G0.out) (hs.gr G0.out) (ht.gr G0.out) (vO_iff.2 hv)
    rwa [prE_ok (vO_iff.2 hv) (cutB_iff.2 hc) (prB_iff.2 hp)] at h)
  have CG := Lib.hid (fun w' (k : Gr w w') => gain_any a a2 a3 n c d q c3 f g h P D w' (hr.gr k) (hs.gr k) (ht.gr k) hv hc hp)
  have CD := Lib.hid (fun w' (k : Gr w w') => dearest_any a a2 n c d f g P D w' (hr.gr k) (hs.gr k) hv hp (hT.gr k))
  have CH := Lib.hid (show ∀ w', Gr w w' → ∀ av cv, RdI w' av (cS n (drB f g n P D)).length (nf (cS n (drB f g n P D))) → Calls Tryd.prog 43 #[.agg #[.slice a n c, .slice a2 n d, .int .i64 (sm f n), .int .i64 (sm g n)], .slice av (cS n (drB f g n P D)).length cv, .agg #[.int .i64 P, .int .i64 D]] w' fun e w'' => e = .returned (.int .i64 (topV f g n P D)) ∧ Gr w' w'' from fun w' k av cv hx => by
    have h := gain_any a a2 av n c d _ cv f g _ P D w' (hr.gr k) (hs.gr k) hx hv (cS_cut n _) hp
    rwa [gnV_onL] at h)
  clear hr hs ht hv hc hp hT
  generalize gnV f g n P D h q = V at *
  generalize topV f g n P D = T at *
  generalize cS n (drB f g n P D) = L at *
  generalize sm f n = sf at *
  generalize sm g n = sg at *
  go_enter Tryd.func14, Tryd.ntmps14
  go_wp2_with (go_at_call 41; (with_reducible refine C.out.mono ?_); rintro e w1 ⟨rfl, g1⟩; have g1' := g1.alloc (.cells #[.slice a n c, .slice a2 n d, .int .i64 sf, .int .i64 sg] 58); obtain ⟨W1, hW1⟩ : ∃ W1, w1.alloc (.cells #[.slice a n c, .slice a2 n d, .int .i64 sf, .int .i64 sg] 58) = W1 := ⟨_, rfl⟩; rw [hW1] at g1'; have G1 := Lib.hid (G0.out.trans g1'); have X1 := Lib.hid (show Box4 W1 w1.heap.size (.slice a n c) (.slice a2 n d) (.int .i64 sf) (.int .i64 sg) by rw [← hW1]; exact Box4.new rfl); have P1 := Lib.hid (B2.out.gr g1'); clear g1 g1' p0 p1 s0 s1; obtain ⟨s0, s1, _⟩ := P1.out; obtain ⟨r0, r1, r2, r3, _⟩ := X1.out)
  refine (wpIn_wide (n := 3)).1 ?_
  refine wpIn_region_held (Kp w [(w1.heap.size, 0, .slice a n c), (w1.heap.size, 1, .slice a2 n d), (w1.heap.size, 2, .int .i64 sf), (w1.heap.size, 3, .int .i64 sg), (w.heap.size + 1, 0, .int .i64 P), (w.heap.size + 1, 1, .int .i64 D)]) 13 (by kernel_rfl) rfl rfl ?_
  have hS : Kp w [(w1.heap.size, 0, .slice a n c), (w1.heap.size, 1, .slice a2 n d), (w1.heap.size, 2, .int .i64 sf), (w1.heap.size, 3, .int .i64 sg), (w.heap.size + 1, 0, .int .i64 P), (w.heap.size + 1, 1, .int .i64 D)] W1.drew := Kp.drew ⟨G1.out, by
    intro x hx
    rcases List.mem_cons.1 hx with rfl | hx; exact (by assumption : W1.cell? ⟨w1.heap.size, 0, none⟩ = some (.slice a n c))
    rcases List.mem_cons.1 hx with rfl | hx; exact (by assumption : W1.cell? ⟨w1.heap.size, 1, none⟩ = some (.slice a2 n d))
    rcases List.mem_cons.1 hx with rfl | hx; exact (by assumption : W1.cell? ⟨w1.heap.size, 2, none⟩ = some (.int .i64 sf))
    rcases List.mem_cons.1 hx with rfl | hx; exact (by assumption : W1.cell? ⟨w1.heap.size, 3, none⟩ = some (.int .i64 sg))
    rcases List.mem_cons.1 hx with rfl | hx; exact (by assumption : W1.cell? ⟨w.heap.size + 1, 0, none⟩ = some (.int .i64 P))
    rcases List.mem_cons.1 hx with rfl | hx; exact (by assumption : W1.cell? ⟨w.heap.size + 1, 1, none⟩ = some (.int .i64 D))
    exact absurd hx (by simp)⟩
  clear r0 r1 r2 r3 s0 s1
  iterate 7 (first
    | (refine wpAnyHIn_take 0 (v := ?_) rfl (by kernel_rfl) (by kernel_rfl) (by kernel_rfl) (by decide +kernel) (fun _ _ _ h => h) (fun _ _ _ => trivial) (by rfl) (fun w' hSw => ?_) hS ?_; rotate_left 1; (focus (have z0 : w'.cell? ⟨w1.heap.size, 0, none⟩ = some (.slice a n c) := hSw.2 _ (.head _); have z1 : w'.cell? ⟨w1.heap.size, 1, none⟩ = some (.slice a2 n d) := hSw.2 _ (.tail _ (.head _)); have z2 : w'.cell? ⟨w1.heap.size, 2, none⟩ = some (.int .i64 sf) := hSw.2 _ (.tail _ (.tail _ (.head _))); have z3 : w'.cell? ⟨w1.heap.size, 3, none⟩ = some (.int .i64 sg) := hSw.2 _ (.tail _ (.tail _ (.tail _ (.head _)))); have z4 : w'.cell? ⟨w.heap.size + 1, 0, none⟩ = some (.int .i64 P) := hSw.2 _ (.tail _ (.tail _ (.tail _ (.tail _ (.head _))))); have z5 : w'.cell? ⟨w.heap.size + 1, 1, none⟩ = some (.int .i64 D) := hSw.2 _ (.tail _ (.tail _ (.tail _ (.tail _ (.tail _ (.head _)))))); go_simp; try with_reducible rfl)); simp only [Act.put, List.setIfInBounds_toArray, List.set_cons_zero, List.set_cons_succ])
    | (refine wpAnyHIn_take 1 (v := ?_) rfl (by kernel_rfl) (by kernel_rfl) (by kernel_rfl) (by decide +kernel) (fun _ _ _ h => h) (fun _ _ _ => trivial) (by rfl) (fun w' hSw => ?_) hS ?_; rotate_left 1; (focus (have z0 : w'.cell? ⟨w1.heap.size, 0, none⟩ = some (.slice a n c) := hSw.2 _ (.head _); have z1 : w'.cell? ⟨w1.heap.size, 1, none⟩ = some (.slice a2 n d) := hSw.2 _ (.tail _ (.head _)); have z2 : w'.cell? ⟨w1.heap.size, 2, none⟩ = some (.int .i64 sf) := hSw.2 _ (.tail _ (.tail _ (.head _))); have z3 : w'.cell? ⟨w1.heap.size, 3, none⟩ = some (.int .i64 sg) := hSw.2 _ (.tail _ (.tail _ (.tail _ (.head _)))); have z4 : w'.cell? ⟨w.heap.size + 1, 0, none⟩ = some (.int .i64 P) := hSw.2 _ (.tail _ (.tail _ (.tail _ (.tail _ (.head _))))); have z5 : w'.cell? ⟨w.heap.size + 1, 1, none⟩ = some (.int .i64 D) := hSw.2 _ (.tail _ (.tail _ (.tail _ (.tail _ (.tail _ (.head _)))))); go_simp; try with_reducible rfl)); simp only [Act.put, List.setIfInBounds_toArray, List.set_cons_zero, List.set_cons_succ])
    | (refine wpAnyHIn_take 2 (v := ?_) rfl (by kernel_rfl) (by kernel_rfl) (by kernel_rfl) (by decide +kernel) (fun _ _ _ h => h) (fun _ _ _ => trivial) (by rfl) (fun w' hSw => ?_) hS ?_; rotate_left 1; (focus (have z0 : w'.cell? ⟨w1.heap.size, 0, none⟩ = some (.slice a n c) := hSw.2 _ (.head _); have z1 : w'.cell? ⟨w1.heap.size, 1, none⟩ = some (.slice a2 n d) := hSw.2 _ (.tail _ (.head _)); have z2 : w'.cell? ⟨w1.heap.size, 2, none⟩ = some (.int .i64 sf) := hSw.2 _ (.tail _ (.tail _ (.head _))); have z3 : w'.cell? ⟨w1.heap.size, 3, none⟩ = some (.int .i64 sg) := hSw.2 _ (.tail _ (.tail _ (.tail _ (.head _)))); have z4 : w'.cell? ⟨w.heap.size + 1, 0, none⟩ = some (.int .i64 P) := hSw.2 _ (.tail _ (.tail _ (.tail _ (.tail _ (.head _))))); have z5 : w'.cell? ⟨w.heap.size + 1, 1, none⟩ = some (.int .i64 D) := hSw.2 _ (.tail _ (.tail _ (.tail _ (.tail _ (.tail _ (.head _)))))); go_simp; try with_reducible rfl)); simp only [Act.put, List.setIfInBounds_toArray, List.set_cons_zero, List.set_cons_succ])
    | (refine wpAnyHIn_take 4 (v := ?_) rfl (by kernel_rfl) (by kernel_rfl) (by kernel_rfl) (by decide +kernel) (fun _ _ _ h => h) (fun _ _ _ => trivial) (by rfl) (fun w' hSw => ?_) hS ?_; rotate_left 1; (focus (have z0 : w'.cell? ⟨w1.heap.size, 0, none⟩ = some (.slice a n c) := hSw.2 _ (.head _); have z1 : w'.cell? ⟨w1.heap.size, 1, none⟩ = some (.slice a2 n d) := hSw.2 _ (.tail _ (.head _)); have z2 : w'.cell? ⟨w1.heap.size, 2, none⟩ = some (.int .i64 sf) := hSw.2 _ (.tail _ (.tail _ (.head _))); have z3 : w'.cell? ⟨w1.heap.size, 3, none⟩ = some (.int .i64 sg) := hSw.2 _ (.tail _ (.tail _ (.tail _ (.head _)))); have z4 : w'.cell? ⟨w.heap.size + 1, 0, none⟩ = some (.int .i64 P) := hSw.2 _ (.tail _ (.tail _ (.tail _ (.tail _ (.head _))))); have z5 : w'.cell? ⟨w.heap.size + 1, 1, none⟩ = some (.int .i64 D) := hSw.2 _ (.tail _ (.tail _ (.tail _ (.tail _ (.tail _ (.head _)))))); go_simp; try with_reducible rfl)); simp only [Act.put, List.setIfInBounds_toArray, List.set_cons_zero, List.set_cons_succ])
    | (refine wpAnyHIn_take 5 (v := ?_) rfl (by kernel_rfl) (by kernel_rfl) (by kernel_rfl) (by decide +kernel) (fun _ _ _ h => h) (fun _ _ _ => trivial) (by rfl) (fun w' hSw => ?_) hS ?_; rotate_left 1; (focus (have z0 : w'.cell? ⟨w1.heap.size, 0, none⟩ = some (.slice a n c) := hSw.2 _ (.head _); have z1 : w'.cell? ⟨w1.heap.size, 1, none⟩ = some (.slice a2 n d) := hSw.2 _ (.tail _ (.head _)); have z2 : w'.cell? ⟨w1.heap.size, 2, none⟩ = some (.int .i64 sf) := hSw.2 _ (.tail _ (.tail _ (.head _))); have z3 : w'.cell? ⟨w1.heap.size, 3, none⟩ = some (.int .i64 sg) := hSw.2 _ (.tail _ (.tail _ (.tail _ (.head _)))); have z4 : w'.cell? ⟨w.heap.size + 1, 0, none⟩ = some (.int .i64 P) := hSw.2 _ (.tail _ (.tail _ (.tail _ (.tail _ (.head _))))); have z5 : w'.cell? ⟨w.heap.size + 1, 1, none⟩ = some (.int .i64 D) := hSw.2 _ (.tail _ (.tail _ (.tail _ (.tail _ (.tail _ (.head _)))))); go_simp; try with_reducible rfl)); simp only [Act.put, List.setIfInBounds_toArray, List.set_cons_zero, List.set_cons_succ])
    | (refine wpAnyHIn_take 6 (v := ?_) rfl (by kernel_rfl) (by kernel_rfl) (by kernel_rfl) (by decide +kernel) (fun _ _ _ h => h) (fun _ _ _ => trivial) (by rfl) (fun w' hSw => ?_) hS ?_; rotate_left 1; (focus (have z0 : w'.cell? ⟨w1.heap.size, 0, none⟩ = some (.slice a n c) := hSw.2 _ (.head _); have z1 : w'.cell? ⟨w1.heap.size, 1, none⟩ = some (.slice a2 n d) := hSw.2 _ (.tail _ (.head _)); have z2 : w'.cell? ⟨w1.heap.size, 2, none⟩ = some (.int .i64 sf) := hSw.2 _ (.tail _ (.tail _ (.head _))); have z3 : w'.cell? ⟨w1.heap.size, 3, none⟩ = some (.int .i64 sg) := hSw.2 _ (.tail _ (.tail _ (.tail _ (.head _)))); have z4 : w'.cell? ⟨w.heap.size + 1, 0, none⟩ = some (.int .i64 P) := hSw.2 _ (.tail _ (.tail _ (.tail _ (.tail _ (.head _))))); have z5 : w'.cell? ⟨w.heap.size + 1, 1, none⟩ = some (.int .i64 D) := hSw.2 _ (.tail _ (.tail _ (.tail _ (.tail _ (.tail _ (.head _)))))); go_simp; try with_reducible rfl)); simp only [Act.put, List.setIfInBounds_toArray, List.set_cons_zero, List.set_cons_succ])
    | (refine wpAnyHIn_take 8 (v := ?_) rfl (by kernel_rfl) (by kernel_rfl) (by kernel_rfl) (by decide +kernel) (fun _ _ _ h => h) (fun _ _ _ => trivial) (by rfl) (fun w' hSw => ?_) hS ?_; rotate_left 1; (focus (have z0 : w'.cell? ⟨w1.heap.size, 0, none⟩ = some (.slice a n c) := hSw.2 _ (.head _); have z1 : w'.cell? ⟨w1.heap.size, 1, none⟩ = some (.slice a2 n d) := hSw.2 _ (.tail _ (.head _)); have z2 : w'.cell? ⟨w1.heap.size, 2, none⟩ = some (.int .i64 sf) := hSw.2 _ (.tail _ (.tail _ (.head _))); have z3 : w'.cell? ⟨w1.heap.size, 3, none⟩ = some (.int .i64 sg) := hSw.2 _ (.tail _ (.tail _ (.tail _ (.head _)))); have z4 : w'.cell? ⟨w.heap.size + 1, 0, none⟩ = some (.int .i64 P) := hSw.2 _ (.tail _ (.tail _ (.tail _ (.tail _ (.head _))))); have z5 : w'.cell? ⟨w.heap.size + 1, 1, none⟩ = some (.int .i64 D) := hSw.2 _ (.tail _ (.tail _ (.tail _ (.tail _ (.tail _ (.head _)))))); go_simp; try with_reducible rfl)); simp only [Act.put, List.setIfInBounds_toArray, List.set_cons_zero, List.set_cons_succ]))
  refine wpAnyHIn_ready [3] (by kernel_rfl) (by simp) ?_
  refine AllHIn.cons rfl (by rfl) (fun K hK => ?_) AllHIn.nil
  go_simp
  refine ⟨trivial, ?_⟩
  refine (callsIn_wide.2 (CG.out _ hS.1)).mono ?_
  rintro e wX ⟨rfl, gX⟩
  have hS := hS.grow gX; clear gX
  refine hK.out _ _ hS ?_
  clear hK K
  refine wpAnyHIn_ready [7] (by kernel_rfl) (by simp) ?_
  refine AllHIn.cons rfl (by rfl) (fun K hK => ?_) AllHIn.nil
  go_simp
  refine ⟨trivial, ?_⟩
  refine (callsIn_wide.2 (CD.out _ hS.1)).mono ?_
  rintro e wX ⟨av, cv, rfl, _, _, lX, gX⟩
  have hL := Lib.hid lX; have hS := hS.grow gX; clear gX lX
  refine hK.out _ _ hS ?_
  clear hK K
  refine wpAnyHIn_ready [9] (by kernel_rfl) (by simp) ?_
  refine AllHIn.cons rfl (by rfl) (fun K hK => ?_) AllHIn.nil
  go_simp
  refine ⟨trivial, ?_⟩
  refine (callsIn_wide.2 (CH.out _ hS.1 _ _ hL.out)).mono ?_
  rintro e wX ⟨rfl, gX⟩
  have hS := hS.grow gX; clear gX
  refine hK.out _ _ hS ?_
  clear hK K
  iterate 3 (first
    | (refine wpAnyHIn_take 10 (v := ?_) rfl (by kernel_rfl) (by kernel_rfl) (by kernel_rfl) (by decide +kernel) (fun _ _ _ h => h) (fun _ _ _ => trivial) (by rfl) (fun w' hSw => ?_) hS ?_; rotate_left 1; (focus (skip; go_simp; try with_reducible rfl)); simp only [Act.put, List.setIfInBounds_toArray, List.set_cons_zero, List.set_cons_succ])
    | (refine wpAnyHIn_take 11 (v := ?_) rfl (by kernel_rfl) (by kernel_rfl) (by kernel_rfl) (by decide +kernel) (fun _ _ _ h => h) (fun _ _ _ => trivial) (by rfl) (fun w' hSw => ?_) hS ?_; rotate_left 1; (focus (skip; go_simp; try with_reducible rfl)); simp only [Act.put, List.setIfInBounds_toArray, List.set_cons_zero, List.set_cons_succ])
    | (refine wpAnyHIn_take 12 (v := ?_) rfl (by kernel_rfl) (by kernel_rfl) (by kernel_rfl) (by decide +kernel) (fun _ _ _ h => h) (fun _ _ _ => trivial) (by rfl) (fun w' hSw => ?_) hS ?_; rotate_left 1; (focus (skip; go_simp; try with_reducible rfl)); simp only [Act.put, List.setIfInBounds_toArray, List.set_cons_zero, List.set_cons_succ]))
  refine wpAnyHIn_done (by kernel_rfl) ?_ _
  go_wp2_with fail
  exact bodyPost_ret (v := .tuple #[.bool (V == T), .int .i64 0]) (by simp [results, Tryd.results14, go_sem]) rfl ⟨rfl, hS.1⟩

set_option maxHeartbeats 4000000 in
theorem refProves_ok (a a2 a3 : Option Addr) (n c d q c3 : Nat) (f g h : Nat → Int) (P D : Int) (w : World) (hr : RdI w a n f) (hs : RdI w a2 n g) (ht : RdI w a3 q h) (hv : VO n n f g) (hc : Cut n q h) (hp : Prc P D) :
    Calls Tryd.prog 15 #[.agg #[.slice a n c, .slice a2 n d], .slice a3 q c3, .agg #[.int .i64 P, .int .i64 D]] w (RetBE (decide (gnV f g n P D h q ≥ topV f g n P D)) 0 w) := by
  have n10 := hv.noise.few
  have q10 := hc.few
  obtain ⟨W0, hW0⟩ : ∃ W0, (w.alloc (.cells #[.slice a n c, .slice a2 n d] 24)).alloc (.cells #[.int .i64 P, .int .i64 D] 26) = W0 := ⟨_, rfl⟩
  have G0 := Lib.hid (show Gr w W0 by rw [← hW0]; exact ((Gr.refl w).alloc _).alloc _)
  have B1 := Lib.hid (show BoxO W0 w.heap.size (.slice a n c) (.slice a2 n d) by rw [← hW0]; exact (BoxO.new rfl).gr ((Gr.refl _).alloc _))
  have B2 := Lib.hid (show Box2 W0 (w.heap.size + 1) P D by rw [← hW0]; exact Box2.new (by simp))
  have hwz := Lib.hid (show w.heap.size + 1 < W0.heap.size by rw [← hW0]; simp)
  obtain ⟨p0, p1⟩ := B1.out
  obtain ⟨s0, s1, _⟩ := B2.out
  have C := Lib.hid (show Calls Tryd.prog 44 #[.agg #[.slice a n c, .slice a2 n d], .slice a3 q c3] W0 (fun e w' => e = .returned (.int .i64 0) ∧ Gr W0 w') from by
    have h := refasked_any a a2 a3 n c n d q c3 f g h W0 (by omega) (by omega) (by omega) (hr.gr G0.out) (hs.gr G0.out) (ht.gr G0.out)
    rwa [askE_ok (vO_iff.2 hv) (cutB_iff.2 hc)] at h)
  have CP := Lib.hid (show ∀ w', Calls Tryd.prog 19 #[.agg #[.int .i64 P, .int .i64 D]] w' (RetB true w') from fun w' => by
    have h := IsPrice_any P D w'
    rwa [prB_iff.2 hp] at h)
  have CG := Lib.hid (fun w' (k : Gr w w') => refgain_any a a2 a3 n c d q c3 f g h P D w' (hr.gr k) (hs.gr k) (ht.gr k) hv hc hp)
  have CD := Lib.hid (fun w' (k : Gr w w') => refdearest_any a a2 n c d f g P D w' (hr.gr k) (hs.gr k) hv hp)
  have CH := Lib.hid (show ∀ w', Gr w w' → ∀ av cv, RdI w' av (cS n (drB f g n P D)).length (nf (cS n (drB f g n P D))) → Calls Tryd.prog 45 #[.agg #[.slice a n c, .slice a2 n d], .slice av (cS n (drB f g n P D)).length cv, .agg #[.int .i64 P, .int .i64 D]] w' fun e w'' => e = .returned (.int .i64 (topV f g n P D)) ∧ Gr w' w'' from fun w' k av cv hx => by
    have h := refgain_any a a2 av n c d _ cv f g _ P D w' (hr.gr k) (hs.gr k) hx hv (cS_cut n _) hp
    rwa [gnV_onL] at h)
  clear hr hs ht hv hc hp
  generalize gnV f g n P D h q = V at *
  generalize topV f g n P D = T at *
  generalize cS n (drB f g n P D) = L at *
  go_enter Tryd.func15, Tryd.ntmps15
  go_wp2_with (first
    | (go_at_call 44; (with_reducible refine C.out.mono ?_); rintro e w1 ⟨rfl, g1⟩; have G1 := Lib.hid (G0.out.trans g1); have P1 := Lib.hid (B2.out.gr g1); have O1 := Lib.hid (B1.out.gr g1); clear g1 p0 p1 s0 s1; obtain ⟨s0, s1, _⟩ := P1.out)
    | (go_at_call 19; (with_reducible refine (CP.out _).mono ?_); rintro e w2 ⟨rfl, g2⟩; have G2 := Lib.hid (G1.out.trans g2); have P2 := Lib.hid (P1.out.gr g2); have O2 := Lib.hid (O1.out.gr g2); clear s0 s1 g2; obtain ⟨s0, s1, _⟩ := P2.out; obtain ⟨p0, p1⟩ := O2.out))
  refine (wpIn_wide (n := 3)).1 ?_
  refine wpIn_region_held (Kp w [(w.heap.size, 0, .slice a n c), (w.heap.size, 1, .slice a2 n d), (w.heap.size + 1, 0, .int .i64 P), (w.heap.size + 1, 1, .int .i64 D)]) 13 (by kernel_rfl) rfl rfl ?_
  have hS : Kp w [(w.heap.size, 0, .slice a n c), (w.heap.size, 1, .slice a2 n d), (w.heap.size + 1, 0, .int .i64 P), (w.heap.size + 1, 1, .int .i64 D)] w2.drew := Kp.drew ⟨G2.out, by
    intro x hx
    rcases List.mem_cons.1 hx with rfl | hx; exact (by assumption : w2.cell? ⟨w.heap.size, 0, none⟩ = some (.slice a n c))
    rcases List.mem_cons.1 hx with rfl | hx; exact (by assumption : w2.cell? ⟨w.heap.size, 1, none⟩ = some (.slice a2 n d))
    rcases List.mem_cons.1 hx with rfl | hx; exact (by assumption : w2.cell? ⟨w.heap.size + 1, 0, none⟩ = some (.int .i64 P))
    rcases List.mem_cons.1 hx with rfl | hx; exact (by assumption : w2.cell? ⟨w.heap.size + 1, 1, none⟩ = some (.int .i64 D))
    exact absurd hx (by simp)⟩
  clear p0 p1 s0 s1
  iterate 7 (first
    | (refine wpAnyHIn_take 0 (v := ?_) rfl (by kernel_rfl) (by kernel_rfl) (by kernel_rfl) (by decide +kernel) (fun _ _ _ h => h) (fun _ _ _ => trivial) (by rfl) (fun w' hSw => ?_) hS ?_; rotate_left 1; (focus (have z0 : w'.cell? ⟨w.heap.size, 0, none⟩ = some (.slice a n c) := hSw.2 _ (.head _); have z1 : w'.cell? ⟨w.heap.size, 1, none⟩ = some (.slice a2 n d) := hSw.2 _ (.tail _ (.head _)); have z2 : w'.cell? ⟨w.heap.size + 1, 0, none⟩ = some (.int .i64 P) := hSw.2 _ (.tail _ (.tail _ (.head _))); have z3 : w'.cell? ⟨w.heap.size + 1, 1, none⟩ = some (.int .i64 D) := hSw.2 _ (.tail _ (.tail _ (.tail _ (.head _)))); go_simp; try with_reducible rfl)); simp only [Act.put, List.setIfInBounds_toArray, List.set_cons_zero, List.set_cons_succ])
    | (refine wpAnyHIn_take 1 (v := ?_) rfl (by kernel_rfl) (by kernel_rfl) (by kernel_rfl) (by decide +kernel) (fun _ _ _ h => h) (fun _ _ _ => trivial) (by rfl) (fun w' hSw => ?_) hS ?_; rotate_left 1; (focus (have z0 : w'.cell? ⟨w.heap.size, 0, none⟩ = some (.slice a n c) := hSw.2 _ (.head _); have z1 : w'.cell? ⟨w.heap.size, 1, none⟩ = some (.slice a2 n d) := hSw.2 _ (.tail _ (.head _)); have z2 : w'.cell? ⟨w.heap.size + 1, 0, none⟩ = some (.int .i64 P) := hSw.2 _ (.tail _ (.tail _ (.head _))); have z3 : w'.cell? ⟨w.heap.size + 1, 1, none⟩ = some (.int .i64 D) := hSw.2 _ (.tail _ (.tail _ (.tail _ (.head _)))); go_simp; try with_reducible rfl)); simp only [Act.put, List.setIfInBounds_toArray, List.set_cons_zero, List.set_cons_succ])
    | (refine wpAnyHIn_take 2 (v := ?_) rfl (by kernel_rfl) (by kernel_rfl) (by kernel_rfl) (by decide +kernel) (fun _ _ _ h => h) (fun _ _ _ => trivial) (by rfl) (fun w' hSw => ?_) hS ?_; rotate_left 1; (focus (have z0 : w'.cell? ⟨w.heap.size, 0, none⟩ = some (.slice a n c) := hSw.2 _ (.head _); have z1 : w'.cell? ⟨w.heap.size, 1, none⟩ = some (.slice a2 n d) := hSw.2 _ (.tail _ (.head _)); have z2 : w'.cell? ⟨w.heap.size + 1, 0, none⟩ = some (.int .i64 P) := hSw.2 _ (.tail _ (.tail _ (.head _))); have z3 : w'.cell? ⟨w.heap.size + 1, 1, none⟩ = some (.int .i64 D) := hSw.2 _ (.tail _ (.tail _ (.tail _ (.head _)))); go_simp; try with_reducible rfl)); simp only [Act.put, List.setIfInBounds_toArray, List.set_cons_zero, List.set_cons_succ])
    | (refine wpAnyHIn_take 4 (v := ?_) rfl (by kernel_rfl) (by kernel_rfl) (by kernel_rfl) (by decide +kernel) (fun _ _ _ h => h) (fun _ _ _ => trivial) (by rfl) (fun w' hSw => ?_) hS ?_; rotate_left 1; (focus (have z0 : w'.cell? ⟨w.heap.size, 0, none⟩ = some (.slice a n c) := hSw.2 _ (.head _); have z1 : w'.cell? ⟨w.heap.size, 1, none⟩ = some (.slice a2 n d) := hSw.2 _ (.tail _ (.head _)); have z2 : w'.cell? ⟨w.heap.size + 1, 0, none⟩ = some (.int .i64 P) := hSw.2 _ (.tail _ (.tail _ (.head _))); have z3 : w'.cell? ⟨w.heap.size + 1, 1, none⟩ = some (.int .i64 D) := hSw.2 _ (.tail _ (.tail _ (.tail _ (.head _)))); go_simp; try with_reducible rfl)); simp only [Act.put, List.setIfInBounds_toArray, List.set_cons_zero, List.set_cons_succ])
    | (refine wpAnyHIn_take 5 (v := ?_) rfl (by kernel_rfl) (by kernel_rfl) (by kernel_rfl) (by decide +kernel) (fun _ _ _ h => h) (fun _ _ _ => trivial) (by rfl) (fun w' hSw => ?_) hS ?_; rotate_left 1; (focus (have z0 : w'.cell? ⟨w.heap.size, 0, none⟩ = some (.slice a n c) := hSw.2 _ (.head _); have z1 : w'.cell? ⟨w.heap.size, 1, none⟩ = some (.slice a2 n d) := hSw.2 _ (.tail _ (.head _)); have z2 : w'.cell? ⟨w.heap.size + 1, 0, none⟩ = some (.int .i64 P) := hSw.2 _ (.tail _ (.tail _ (.head _))); have z3 : w'.cell? ⟨w.heap.size + 1, 1, none⟩ = some (.int .i64 D) := hSw.2 _ (.tail _ (.tail _ (.tail _ (.head _)))); go_simp; try with_reducible rfl)); simp only [Act.put, List.setIfInBounds_toArray, List.set_cons_zero, List.set_cons_succ])
    | (refine wpAnyHIn_take 6 (v := ?_) rfl (by kernel_rfl) (by kernel_rfl) (by kernel_rfl) (by decide +kernel) (fun _ _ _ h => h) (fun _ _ _ => trivial) (by rfl) (fun w' hSw => ?_) hS ?_; rotate_left 1; (focus (have z0 : w'.cell? ⟨w.heap.size, 0, none⟩ = some (.slice a n c) := hSw.2 _ (.head _); have z1 : w'.cell? ⟨w.heap.size, 1, none⟩ = some (.slice a2 n d) := hSw.2 _ (.tail _ (.head _)); have z2 : w'.cell? ⟨w.heap.size + 1, 0, none⟩ = some (.int .i64 P) := hSw.2 _ (.tail _ (.tail _ (.head _))); have z3 : w'.cell? ⟨w.heap.size + 1, 1, none⟩ = some (.int .i64 D) := hSw.2 _ (.tail _ (.tail _ (.tail _ (.head _)))); go_simp; try with_reducible rfl)); simp only [Act.put, List.setIfInBounds_toArray, List.set_cons_zero, List.set_cons_succ])
    | (refine wpAnyHIn_take 8 (v := ?_) rfl (by kernel_rfl) (by kernel_rfl) (by kernel_rfl) (by decide +kernel) (fun _ _ _ h => h) (fun _ _ _ => trivial) (by rfl) (fun w' hSw => ?_) hS ?_; rotate_left 1; (focus (have z0 : w'.cell? ⟨w.heap.size, 0, none⟩ = some (.slice a n c) := hSw.2 _ (.head _); have z1 : w'.cell? ⟨w.heap.size, 1, none⟩ = some (.slice a2 n d) := hSw.2 _ (.tail _ (.head _)); have z2 : w'.cell? ⟨w.heap.size + 1, 0, none⟩ = some (.int .i64 P) := hSw.2 _ (.tail _ (.tail _ (.head _))); have z3 : w'.cell? ⟨w.heap.size + 1, 1, none⟩ = some (.int .i64 D) := hSw.2 _ (.tail _ (.tail _ (.tail _ (.head _)))); go_simp; try with_reducible rfl)); simp only [Act.put, List.setIfInBounds_toArray, List.set_cons_zero, List.set_cons_succ]))
  refine wpAnyHIn_ready [3] (by kernel_rfl) (by simp) ?_
  refine AllHIn.cons rfl (by rfl) (fun K hK => ?_) AllHIn.nil
  go_simp
  refine ⟨trivial, ?_⟩
  refine (callsIn_wide.2 (CG.out _ hS.1)).mono ?_
  rintro e wX ⟨rfl, gX⟩
  have hS := hS.grow gX; clear gX
  refine hK.out _ _ hS ?_
  clear hK K
  refine wpAnyHIn_ready [7] (by kernel_rfl) (by simp) ?_
  refine AllHIn.cons rfl (by rfl) (fun K hK => ?_) AllHIn.nil
  go_simp
  refine ⟨trivial, ?_⟩
  refine (callsIn_wide.2 (CD.out _ hS.1)).mono ?_
  rintro e wX ⟨av, cv, rfl, _, _, lX, gX⟩
  have hL := Lib.hid lX; have hS := hS.grow gX; clear gX lX
  refine hK.out _ _ hS ?_
  clear hK K
  refine wpAnyHIn_ready [9] (by kernel_rfl) (by simp) ?_
  refine AllHIn.cons rfl (by rfl) (fun K hK => ?_) AllHIn.nil
  go_simp
  refine ⟨trivial, ?_⟩
  refine (callsIn_wide.2 (CH.out _ hS.1 _ _ hL.out)).mono ?_
  rintro e wX ⟨rfl, gX⟩
  have hS := hS.grow gX; clear gX
  refine hK.out _ _ hS ?_
  clear hK K
  iterate 3 (first
    | (refine wpAnyHIn_take 10 (v := ?_) rfl (by kernel_rfl) (by kernel_rfl) (by kernel_rfl) (by decide +kernel) (fun _ _ _ h => h) (fun _ _ _ => trivial) (by rfl) (fun w' hSw => ?_) hS ?_; rotate_left 1; (focus (skip; go_simp; try with_reducible rfl)); simp only [Act.put, List.setIfInBounds_toArray, List.set_cons_zero, List.set_cons_succ])
    | (refine wpAnyHIn_take 11 (v := ?_) rfl (by kernel_rfl) (by kernel_rfl) (by kernel_rfl) (by decide +kernel) (fun _ _ _ h => h) (fun _ _ _ => trivial) (by rfl) (fun w' hSw => ?_) hS ?_; rotate_left 1; (focus (skip; go_simp; try with_reducible rfl)); simp only [Act.put, List.setIfInBounds_toArray, List.set_cons_zero, List.set_cons_succ])
    | (refine wpAnyHIn_take 12 (v := ?_) rfl (by kernel_rfl) (by kernel_rfl) (by kernel_rfl) (by decide +kernel) (fun _ _ _ h => h) (fun _ _ _ => trivial) (by rfl) (fun w' hSw => ?_) hS ?_; rotate_left 1; (focus (skip; go_simp; try with_reducible rfl)); simp only [Act.put, List.setIfInBounds_toArray, List.set_cons_zero, List.set_cons_succ]))
  refine wpAnyHIn_done (by kernel_rfl) ?_ _
  go_wp2_with fail
  exact bodyPost_ret (v := .tuple #[.bool (decide (V ≥ T)), .int .i64 0]) (by simp [results, Tryd.results15, go_sem]) rfl ⟨rfl, hS.1⟩

end Go.Proofs.YtohcnicadbpbbaaDoor
