/- Contracts of chapter 7: what is told of odds, a cut and a price; the gain of a cut, of the program and of the reference. Contracts of chapter 7: the gain of a cut, of the program and of the reference. Contracts of chapter 7: the dearest cut, and whether a price proves a cut, of the program and of the reference. -/
import Derived.Test.YtohcnicadbpbbaaGreatDoorDF
namespace Go.Proofs.YtohcnicadbpbbaaGreatDoor
open Go.RowKit Go.Firn

/-- The first error of odds, a cut and a price. -/
def prE (n m : Nat) (f g : Nat → Int) (q : Nat) (h : Nat → Int) (P D : Int) : Int := if askE n m f g q h = 0 then (if prB P D then 0 else 2) else askE n m f g q h
section
variable {n m q : Nat} {f g h : Nat → Int} {P D : Int}
theorem prE_no (hv : vO n m f g = false) : prE n m f g q h P D = 70 := by unfold prE; rw [askE_no hv]; rfl
theorem prE_bad (hv : vO n m f g = true) (hc : cutB n q h = false) : prE n m f g q h P D = 2 := by unfold prE; rw [askE_bad hv hc]; rfl
theorem prE_price (hv : vO n m f g = true) (hc : cutB n q h = true) (hp : prB P D = false) : prE n m f g q h P D = 2 := by unfold prE; rw [askE_ok hv hc, hp]; rfl
theorem prE_ok (hv : vO n m f g = true) (hc : cutB n q h = true) (hp : prB P D = true) : prE n m f g q h P D = 0 := by unfold prE; rw [askE_ok hv hc, hp]; rfl
theorem prE_zero (hE : prE n m f g q h P D = 0) : vO n m f g = true ∧ cutB n q h = true ∧ prB P D = true := by
  cases hv : vO n m f g with
  | false => rw [prE_no hv] at hE; omega
  | true =>
    cases hc : cutB n q h with
    | false => rw [prE_bad hv hc] at hE; omega
    | true =>
      cases hp : prB P D with
      | false => rw [prE_price hv hc hp] at hE; omega
      | true => exact ⟨rfl, rfl, rfl⟩
theorem gnV_sz (V : VO n n f g) (C : Cut n q h) (hp : Prc P D) : Sz (gnV f g n P D h q) ∧ Sz (sm g n * D * sm f n) ∧ 0 < sm g n * D * sm f n ∧ IntKind.i64.wrap (sm g n * D) = sm g n * D ∧ IntKind.i64.wrap (sm g n * D * sm f n) = sm g n * D * sm f n := by
  have n10 := V.noise.few
  have b1 := sm_le10 V.noise
  have b2 := sm_le10 V.signal
  have p1 := V.noise.sum
  have p2 := V.signal.sum
  have k1 := kp_all2 C V.noise
  have k2 := kp_all2 C V.signal
  have b := gain_bd k2 k1 (show 0 ≤ sm f n ∧ sm f n ≤ 10000 by omega) (show 0 ≤ sm g n ∧ sm g n ≤ 10000 by omega) hp
  have b' := gain_bd (show 0 ≤ sm g n ∧ sm g n ≤ 10000 by omega) k1 (show 0 ≤ sm f n ∧ sm f n ≤ 10000 by omega) (show 0 ≤ sm g n ∧ sm g n ≤ 10000 by omega) hp
  have hp0 : 0 < sm g n * D * sm f n := Int.mul_pos (Int.mul_pos p2.1 (by have := hp.1; omega)) p1.1
  unfold gnV Sz
  exact ⟨by omega, by omega, hp0, (wr64 (by omega)).1, (wr64 (by omega)).1⟩
end
/-- Odds with their sums that stand somewhere, and an error. -/
def RetP (E : Int) (w : World) (e : Ending) (w' : World) : Prop := ∃ (a a2 : Option Addr) (n c m d : Nat) (x y : Int), e = .returned (.tuple #[.agg #[.slice a n c, .slice a2 m d, .int .i64 x, .int .i64 y], .int .i64 E]) ∧ Gr w w'

set_option maxHeartbeats 2000000 in
theorem priced_gen (a a2 a3 : Option Addr) (n c m d q c3 : Nat) (P D : Int) (b b2 : Option Addr) (n1 c1 m1 d1 : Nat) (x y E : Int) (w : World) (hE : E ≠ 0)
    (hC : ∀ w', Gr w w' → Calls Tryz.prog 29 #[.agg #[.slice a n c, .slice a2 m d]] w' (RetO (.slice b n1 c1) (.slice b2 m1 d1) x y E w')) :
    Calls Tryz.prog 44 #[.agg #[.slice a n c, .slice a2 m d], .slice a3 q c3, .agg #[.int .i64 P, .int .i64 D]] w (RetO (.slice b n1 c1) (.slice b2 m1 d1) x y E w) := by
  obtain ⟨W0, hW0⟩ : ∃ W0, ((w.alloc (.cells #[.slice a n c, .slice a2 m d] 24)).alloc (.cells #[.int .i64 P, .int .i64 D] 28)).alloc (.cells #[.slice none 0 0, .slice none 0 0, .int .i64 0, .int .i64 0] 57) = W0 := ⟨_, rfl⟩
  have G0 := Lib.hid (show Gr w W0 by rw [← hW0]; exact (((Gr.refl w).alloc _).alloc _).alloc _)
  have B1 := Lib.hid (show BoxO W0 w.heap.size (.slice a n c) (.slice a2 m d) by rw [← hW0]; exact (BoxO.new rfl).gr (((Gr.refl _).alloc _).alloc _))
  have B3 := Lib.hid (show Box4 W0 (w.heap.size + 1 + 1) (.slice none 0 0) (.slice none 0 0) (.int .i64 0) (.int .i64 0) by rw [← hW0]; exact Box4.new (by simp))
  have C := Lib.hid (hC W0 G0.out)
  obtain ⟨p0, p1⟩ := B1.out
  have e1 : (E == 0) = false := by simpa using hE
  have e2 : (E != 0) = true := by simpa using hE
  clear hC hE
  go_enter Tryz.func44, Tryz.ntmps44
  go_wp2_with (go_at_call 29; (with_reducible refine C.out.mono ?_); rintro e w1 ⟨rfl, g1⟩; have g1' := g1.alloc (.cells #[.slice b n1 c1, .slice b2 m1 d1, .int .i64 x, .int .i64 y] 57); obtain ⟨W1, hW1⟩ : ∃ W1, w1.alloc (.cells #[.slice b n1 c1, .slice b2 m1 d1, .int .i64 x, .int .i64 y] 57) = W1 := ⟨_, rfl⟩; rw [hW1] at g1'; have G1 := Lib.hid (G0.out.trans g1'); have X1 := Lib.hid (show Box4 W1 w1.heap.size (.slice b n1 c1) (.slice b2 m1 d1) (.int .i64 x) (.int .i64 y) by rw [← hW1]; exact Box4.new rfl); have B4 := Lib.hid (B3.out.gr g1'); obtain ⟨r0, r1, r2, r3, _⟩ := X1.out; obtain ⟨k0, k1, k2, k3, k4, k5, k6, k7⟩ := B4.out; clear g1 g1')
  obtain ⟨z0, z1, z2, z3, _⟩ := Box4.put B4.out (.slice b n1 c1) (.slice b2 m1 d1) (.int .i64 x) (.int .i64 y)
  refine bodyPost_ret (v := .tuple #[.agg #[.slice b n1 c1, .slice b2 m1 d1, .int .i64 x, .int .i64 y], .int .i64 E]) (by simp [results, Tryz.results44, go_sem, z0, z1, z2, z3]) rfl ⟨rfl, ?_⟩
  repeat (first | exact G1.out | refine Gr.setCell ?_ (by simp; omega) _ | refine Gr.setCell ?_ (by simp) _ | refine Gr.alloc ?_ _ | refine Gr.drewN ?_ _ | refine Gr.drew ?_)

theorem priced_no (a a2 a3 : Option Addr) (n c m d q c3 : Nat) (f g : Nat → Int) (P D : Int) (w : World) (hn : n ≤ 1000) (hm : m ≤ 1000) (hr : RdI w a n f) (hs : RdI w a2 m g) (hv : vO n m f g = false) :
    Calls Tryz.prog 44 #[.agg #[.slice a n c, .slice a2 m d], .slice a3 q c3, .agg #[.int .i64 P, .int .i64 D]] w (RetO (.slice none 0 0) (.slice none 0 0) 0 0 70 w) :=
  priced_gen a a2 a3 n c m d q c3 P D none none 0 0 0 0 0 0 70 w (by omega) (fun w' k => newOdds_no a a2 n c m d f g w' hn hm (hr.gr k) (hs.gr k) hv)

set_option maxHeartbeats 4000000 in
theorem priced_any (a a2 a3 : Option Addr) (n c d q c3 : Nat) (f g h : Nat → Int) (P D : Int) (w : World) (hn : n ≤ 1000) (hq : q ≤ 1000) (hr : RdI w a n f) (hs : RdI w a2 n g) (ht : RdI w a3 q h) (hv : vO n n f g = true) :
    Calls Tryz.prog 44 #[.agg #[.slice a n c, .slice a2 n d], .slice a3 q c3, .agg #[.int .i64 P, .int .i64 D]] w (RetO (.slice a n c) (.slice a2 n d) (sm f n) (sm g n) (prE n n f g q h P D) w) := by
  obtain ⟨W0, hW0⟩ : ∃ W0, ((w.alloc (.cells #[.slice a n c, .slice a2 n d] 24)).alloc (.cells #[.int .i64 P, .int .i64 D] 28)).alloc (.cells #[.slice none 0 0, .slice none 0 0, .int .i64 0, .int .i64 0] 57) = W0 := ⟨_, rfl⟩
  have G0 := Lib.hid (show Gr w W0 by rw [← hW0]; exact (((Gr.refl w).alloc _).alloc _).alloc _)
  have B1 := Lib.hid (show BoxO W0 w.heap.size (.slice a n c) (.slice a2 n d) by rw [← hW0]; exact (BoxO.new rfl).gr (((Gr.refl _).alloc _).alloc _))
  have B2 := Lib.hid (show Box2 W0 (w.heap.size + 1) P D by rw [← hW0]; exact (Box2.new (by simp)).gr ((Gr.refl _).alloc _))
  have B3 := Lib.hid (show Box4 W0 (w.heap.size + 1 + 1) (.slice none 0 0) (.slice none 0 0) (.int .i64 0) (.int .i64 0) by rw [← hW0]; exact Box4.new (by simp))
  have C := Lib.hid (newOdds_ok a a2 n c n d f g W0 hn hn (hr.gr G0.out) (hs.gr G0.out) hv)
  have CC := Lib.hid (fun t u v w' (k : Gr w w') => isCut_any a a3 n c q c3 t u v h w' hn hq (ht.gr k))
  have CP := Lib.hid (fun w' => isPrice_any P D w')
  obtain ⟨p0, p1⟩ := B1.out
  obtain ⟨E, hE⟩ : ∃ E, prE n n f g q h P D = E := ⟨_, rfl⟩
  have ask : ∀ x, cutB n q h = x → ∀ y, prB P D = y → (if x && y then 0 else 2) = E := by
    intro x hx y hy
    rw [← hE]
    cases x with
    | false => rw [prE_bad hv hx]; rfl
    | true => cases y with
      | false => rw [prE_price hv hx hy]; rfl
      | true => rw [prE_ok hv hx hy]; rfl
  rw [hE]
  clear hr hs ht hv hE
  generalize sm f n = sf at *
  generalize sm g n = sg at *
  cases hx : cutB n q h with
  | false =>
    rw [← ask _ hx _ rfl]
    rw [show (if false && prB P D then 0 else 2 : Int) = 2 from rfl]
    rw [hx] at CC
    clear ask hx
    go_enter Tryz.func44, Tryz.ntmps44
    go_wp2_with (first
      | (go_at_call 29; (with_reducible refine C.out.mono ?_); rintro e w1 ⟨rfl, g1⟩; have g1' := g1.alloc (.cells #[.slice a n c, .slice a2 n d, .int .i64 sf, .int .i64 sg] 57); obtain ⟨W1, hW1⟩ : ∃ W1, w1.alloc (.cells #[.slice a n c, .slice a2 n d, .int .i64 sf, .int .i64 sg] 57) = W1 := ⟨_, rfl⟩; rw [hW1] at g1'; have G1 := Lib.hid (G0.out.trans g1'); have X1 := Lib.hid (show Box4 W1 w1.heap.size (.slice a n c) (.slice a2 n d) (.int .i64 sf) (.int .i64 sg) by rw [← hW1]; exact Box4.new rfl); have B4 := Lib.hid (B3.out.gr g1'); have P1 := Lib.hid (B2.out.gr g1'); obtain ⟨r0, r1, r2, r3, _⟩ := X1.out; obtain ⟨s0, s1, _⟩ := P1.out; obtain ⟨k0, k1, k2, k3, k4, k5, k6, k7⟩ := B4.out; clear g1 g1')
      | (go_at_call 64; (with_reducible refine (CC.out _ _ _ _ (by first | exact G1.out | exact G1.out.drew)).mono ?_); rintro e w2 ⟨rfl, g2⟩; have G2 := Lib.hid (G1.out.trans g2); have X2 := Lib.hid (X1.out.gr g2); have P2 := Lib.hid (P1.out.gr g2); have B5 := Lib.hid (B4.out.gr g2); clear k0 k1 k2 k3 k4 k5 k6 k7; obtain ⟨k0, k1, k2, k3, k4, k5, k6, k7⟩ := B5.out; clear r0 r1 r2 r3 s0 s1; obtain ⟨r0, r1, r2, r3, _⟩ := X2.out; obtain ⟨s0, s1, _⟩ := P2.out; clear g2))
    obtain ⟨z0, z1, z2, z3, _⟩ := Box4.put B5.out (.slice a n c) (.slice a2 n d) (.int .i64 sf) (.int .i64 sg)
    refine bodyPost_ret (v := .tuple #[.agg #[.slice a n c, .slice a2 n d, .int .i64 sf, .int .i64 sg], .int .i64 2]) (by simp [results, Tryz.results44, go_sem, z0, z1, z2, z3]) rfl ⟨rfl, ?_⟩
    repeat (first | exact G2.out | refine Gr.setCell ?_ (by simp; omega) _ | refine Gr.setCell ?_ (by simp) _ | refine Gr.alloc ?_ _ | refine Gr.drewN ?_ _ | refine Gr.drew ?_)
  | true =>
    rw [hx] at CC
    cases hy : prB P D with
    | false =>
      rw [← ask _ hx _ hy]
      rw [hy] at CP
      clear ask hx hy
      go_enter Tryz.func44, Tryz.ntmps44
      go_wp2_with (first
        | (go_at_call 29; (with_reducible refine C.out.mono ?_); rintro e w1 ⟨rfl, g1⟩; have g1' := g1.alloc (.cells #[.slice a n c, .slice a2 n d, .int .i64 sf, .int .i64 sg] 57); obtain ⟨W1, hW1⟩ : ∃ W1, w1.alloc (.cells #[.slice a n c, .slice a2 n d, .int .i64 sf, .int .i64 sg] 57) = W1 := ⟨_, rfl⟩; rw [hW1] at g1'; have G1 := Lib.hid (G0.out.trans g1'); have X1 := Lib.hid (show Box4 W1 w1.heap.size (.slice a n c) (.slice a2 n d) (.int .i64 sf) (.int .i64 sg) by rw [← hW1]; exact Box4.new rfl); have B4 := Lib.hid (B3.out.gr g1'); have P1 := Lib.hid (B2.out.gr g1'); obtain ⟨r0, r1, r2, r3, _⟩ := X1.out; obtain ⟨s0, s1, _⟩ := P1.out; obtain ⟨k0, k1, k2, k3, k4, k5, k6, k7⟩ := B4.out; clear g1 g1')
        | (go_at_call 64; (with_reducible refine (CC.out _ _ _ _ (by first | exact G1.out | exact G1.out.drew)).mono ?_); rintro e w2 ⟨rfl, g2⟩; have G2 := Lib.hid (G1.out.trans g2); have X2 := Lib.hid (X1.out.gr g2); have P2 := Lib.hid (P1.out.gr g2); have B5 := Lib.hid (B4.out.gr g2); clear k0 k1 k2 k3 k4 k5 k6 k7; obtain ⟨k0, k1, k2, k3, k4, k5, k6, k7⟩ := B5.out; clear r0 r1 r2 r3 s0 s1; obtain ⟨r0, r1, r2, r3, _⟩ := X2.out; obtain ⟨s0, s1, _⟩ := P2.out; clear g2)
        | (go_at_call 65; (with_reducible refine (CP.out _).mono ?_); rintro e w3 ⟨rfl, g3⟩; have G3 := Lib.hid (G2.out.trans g3); have X3 := Lib.hid (X2.out.gr g3); have B6 := Lib.hid (B5.out.gr g3); clear k0 k1 k2 k3 k4 k5 k6 k7; obtain ⟨k0, k1, k2, k3, k4, k5, k6, k7⟩ := B6.out; clear r0 r1 r2 r3; obtain ⟨r0, r1, r2, r3, _⟩ := X3.out; clear g3))
      obtain ⟨z0, z1, z2, z3, _⟩ := Box4.put B6.out (.slice a n c) (.slice a2 n d) (.int .i64 sf) (.int .i64 sg)
      refine bodyPost_ret (v := .tuple #[.agg #[.slice a n c, .slice a2 n d, .int .i64 sf, .int .i64 sg], .int .i64 2]) (by simp [results, Tryz.results44, go_sem, z0, z1, z2, z3]) rfl ⟨rfl, ?_⟩
      repeat (first | exact G3.out | refine Gr.setCell ?_ (by simp; omega) _ | refine Gr.setCell ?_ (by simp) _ | refine Gr.alloc ?_ _ | refine Gr.drewN ?_ _ | refine Gr.drew ?_)
    | true =>
      rw [← ask _ hx _ hy]
      rw [hy] at CP
      clear ask hx hy
      go_enter Tryz.func44, Tryz.ntmps44
      go_wp2_with (first
        | (go_at_call 29; (with_reducible refine C.out.mono ?_); rintro e w1 ⟨rfl, g1⟩; have g1' := g1.alloc (.cells #[.slice a n c, .slice a2 n d, .int .i64 sf, .int .i64 sg] 57); obtain ⟨W1, hW1⟩ : ∃ W1, w1.alloc (.cells #[.slice a n c, .slice a2 n d, .int .i64 sf, .int .i64 sg] 57) = W1 := ⟨_, rfl⟩; rw [hW1] at g1'; have G1 := Lib.hid (G0.out.trans g1'); have X1 := Lib.hid (show Box4 W1 w1.heap.size (.slice a n c) (.slice a2 n d) (.int .i64 sf) (.int .i64 sg) by rw [← hW1]; exact Box4.new rfl); have B4 := Lib.hid (B3.out.gr g1'); have P1 := Lib.hid (B2.out.gr g1'); obtain ⟨r0, r1, r2, r3, _⟩ := X1.out; obtain ⟨s0, s1, _⟩ := P1.out; obtain ⟨k0, k1, k2, k3, k4, k5, k6, k7⟩ := B4.out; clear g1 g1')
        | (go_at_call 64; (with_reducible refine (CC.out _ _ _ _ (by first | exact G1.out | exact G1.out.drew)).mono ?_); rintro e w2 ⟨rfl, g2⟩; have G2 := Lib.hid (G1.out.trans g2); have X2 := Lib.hid (X1.out.gr g2); have P2 := Lib.hid (P1.out.gr g2); have B5 := Lib.hid (B4.out.gr g2); clear k0 k1 k2 k3 k4 k5 k6 k7; obtain ⟨k0, k1, k2, k3, k4, k5, k6, k7⟩ := B5.out; clear r0 r1 r2 r3 s0 s1; obtain ⟨r0, r1, r2, r3, _⟩ := X2.out; obtain ⟨s0, s1, _⟩ := P2.out; clear g2)
        | (go_at_call 65; (with_reducible refine (CP.out _).mono ?_); rintro e w3 ⟨rfl, g3⟩; have G3 := Lib.hid (G2.out.trans g3); have X3 := Lib.hid (X2.out.gr g3); have B6 := Lib.hid (B5.out.gr g3); clear k0 k1 k2 k3 k4 k5 k6 k7; obtain ⟨k0, k1, k2, k3, k4, k5, k6, k7⟩ := B6.out; clear r0 r1 r2 r3; obtain ⟨r0, r1, r2, r3, _⟩ := X3.out; clear g3))
      obtain ⟨z0, z1, z2, z3, _⟩ := Box4.put B6.out (.slice a n c) (.slice a2 n d) (.int .i64 sf) (.int .i64 sg)
      refine bodyPost_ret (v := .tuple #[.agg #[.slice a n c, .slice a2 n d, .int .i64 sf, .int .i64 sg], .int .i64 0]) (by simp [results, Tryz.results44, go_sem, z0, z1, z2, z3]) rfl ⟨rfl, ?_⟩
      repeat (first | exact G3.out | refine Gr.setCell ?_ (by simp; omega) _ | refine Gr.setCell ?_ (by simp) _ | refine Gr.alloc ?_ _ | refine Gr.drewN ?_ _ | refine Gr.drew ?_)

theorem priced_err (a a2 a3 : Option Addr) (n c m d q c3 : Nat) (f g h : Nat → Int) (P D : Int) (w : World) (hn : n ≤ 1000) (hm : m ≤ 1000) (hq : q ≤ 1000) (hr : RdI w a n f) (hs : RdI w a2 m g) (ht : RdI w a3 q h) (hE : prE n m f g q h P D ≠ 0) :
    Calls Tryz.prog 44 #[.agg #[.slice a n c, .slice a2 m d], .slice a3 q c3, .agg #[.int .i64 P, .int .i64 D]] w (RetP (prE n m f g q h P D) w) := by
  cases hv : vO n m f g with
  | false =>
    rw [prE_no hv]
    exact (priced_no a a2 a3 n c m d q c3 f g P D w hn hm hr hs hv).mono fun e w' h => ⟨none, none, 0, 0, 0, 0, 0, 0, h⟩
  | true =>
    have V := vO_iff.1 hv
    obtain rfl := V.same
    exact (priced_any a a2 a3 n c d q c3 f g h P D w hn hq hr hs ht hv).mono fun e w' h => ⟨a, a2, n, c, n, d, _, _, h⟩

end Go.Proofs.YtohcnicadbpbbaaGreatDoor

namespace Go.Proofs.YtohcnicadbpbbaaGreatDoor
open Go.RowKit Go.Firn

theorem cell_off {w : World} {b i k j : Nat} {v : Value} (h : w.cell? ⟨b, i, none⟩ = some v) (hne : k ≠ b) (u : Value) : (w.setCell ⟨k, j, none⟩ u).cell? ⟨b, i, none⟩ = some v := by
  rw [World.cell?_setCell_other _ _ _ _ (fun e => hne (congrArg Addr.block e))]; exact h

/-- So many cells stand, and nothing of w has turned. -/
def Kp (w : World) (L : List (Nat × Nat × Value)) (w' : World) : Prop := Gr w w' ∧ ∀ x ∈ L, w'.cell? ⟨x.1, x.2.1, none⟩ = some x.2.2
theorem Kp.grow {w w1 w2 : World} {L : List (Nat × Nat × Value)} (h : Kp w L w1) (g : Gr w1 w2) : Kp w L w2 := ⟨h.1.trans g, fun x hx => g.cell (h.2 x hx)⟩
theorem Kp.drew {w w1 : World} {L : List (Nat × Nat × Value)} (h : Kp w L w1) : Kp w L w1.drew := h.grow (Gr.refl w1).drew
theorem Kp.set {w w1 : World} {L : List (Nat × Nat × Value)} (h : Kp w L w1) {k j : Nat} (hk : w.heap.size ≤ k) (hL : ∀ x ∈ L, k ≠ x.1) (u : Value) : Kp w L (w1.setCell ⟨k, j, none⟩ u) :=
  ⟨h.1.setCell (p := ⟨k, j, none⟩) hk u, fun x hx => cell_off (h.2 x hx) (hL x hx) u⟩

end Go.Proofs.YtohcnicadbpbbaaGreatDoor

namespace Go.Proofs.YtohcnicadbpbbaaGreatDoor
open Go.RowKit Go.Firn

theorem cut_nil (n : Nat) (h : Nat → Int) : Cut n 0 h := cutB_iff.1 (by unfold cutB; rfl)
/-- The first error of odds and a price. -/
def deE (n m : Nat) (f g : Nat → Int) (P D : Int) : Int := prE n m f g 0 (fun _ => 0) P D

/-- A bool and an error. -/
def RetBE (b : Bool) (E : Int) (w : World) (e : Ending) (w' : World) : Prop := e = .returned (.tuple #[.bool b, .int .i64 E]) ∧ Gr w w'

set_option maxHeartbeats 2000000 in
theorem Proves_err (a a2 a3 : Option Addr) (n c m d q c3 : Nat) (f g h : Nat → Int) (P D : Int) (w : World) (hn : n ≤ 1000) (hm : m ≤ 1000) (hq : q ≤ 1000) (hr : RdI w a n f) (hs : RdI w a2 m g) (ht : RdI w a3 q h) (hE : prE n m f g q h P D ≠ 0) :
    Calls Tryz.prog 17 #[.agg #[.slice a n c, .slice a2 m d], .slice a3 q c3, .agg #[.int .i64 P, .int .i64 D]] w (RetBE false (prE n m f g q h P D) w) := by
  obtain ⟨W0, hW0⟩ : ∃ W0, (w.alloc (.cells #[.slice a n c, .slice a2 m d] 24)).alloc (.cells #[.int .i64 P, .int .i64 D] 28) = W0 := ⟨_, rfl⟩
  have G0 := Lib.hid (show Gr w W0 by rw [← hW0]; exact ((Gr.refl w).alloc _).alloc _)
  have B1 := Lib.hid (show BoxO W0 w.heap.size (.slice a n c) (.slice a2 m d) by rw [← hW0]; exact (BoxO.new rfl).gr ((Gr.refl _).alloc _))
  have B2 := Lib.hid (show Box2 W0 (w.heap.size + 1) P D by rw [← hW0]; exact Box2.new (by simp))
  have hwz := Lib.hid (show w.heap.size + 1 < W0.heap.size by rw [← hW0]; simp)
  obtain ⟨p0, p1⟩ := B1.out
  obtain ⟨s0, s1, _⟩ := B2.out
  have C := Lib.hid (priced_err a a2 a3 n c m d q c3 f g h P D W0 hn hm hq (hr.gr G0.out) (hs.gr G0.out) (ht.gr G0.out) hE)
  generalize prE n m f g q h P D = E at *
  have e1 : (E == 0) = false := by simpa using hE
  have e2 : (E != 0) = true := by simpa using hE
  clear hr hs ht hE hwz
  go_enter Tryz.func17, Tryz.ntmps17
  go_wp2_with (go_at_call 44; (with_reducible refine C.out.mono ?_); rintro e w1 ⟨b, c4, b1, b2, c5, c6, x, y, rfl, g1⟩; have g1' := g1.alloc (.cells #[.slice b b1 b2, .slice c4 c5 c6, .int .i64 x, .int .i64 y] 57); obtain ⟨W1, hW1⟩ : ∃ W1, w1.alloc (.cells #[.slice b b1 b2, .slice c4 c5 c6, .int .i64 x, .int .i64 y] 57) = W1 := ⟨_, rfl⟩; rw [hW1] at g1'; have G1 := Lib.hid (G0.out.trans g1'); clear g1 g1')
  refine bodyPost_ret (v := .tuple #[.bool false, .int .i64 E]) (by simp [results, Tryz.results17, go_sem]) rfl ⟨rfl, ?_⟩
  repeat (first | exact G1.out | refine Gr.setCell ?_ (by simp; omega) _ | refine Gr.setCell ?_ (by simp) _ | refine Gr.alloc ?_ _ | refine Gr.drewN ?_ _ | refine Gr.drew ?_)

/-- The gain of the dearest cut. -/
def topV (f g : Nat → Int) (n : Nat) (P D : Int) : Int := gS f g n P D (drB f g n P D)

set_option maxHeartbeats 4000000 in
theorem Proves_ok (a a2 a3 : Option Addr) (n c d q c3 : Nat) (f g h : Nat → Int) (P D : Int) (w : World) (hr : RdI w a n f) (hs : RdI w a2 n g) (ht : RdI w a3 q h) (hv : VO n n f g) (hc : Cut n q h) (hp : Prc P D) (hT : Tab w) :
    Calls Tryz.prog 17 #[.agg #[.slice a n c, .slice a2 n d], .slice a3 q c3, .agg #[.int .i64 P, .int .i64 D]] w (RetBE (gnV f g n P D h q == topV f g n P D) 0 w) := by
  have n10 := hv.noise.few
  have q10 := hc.few
  obtain ⟨W0, hW0⟩ : ∃ W0, (w.alloc (.cells #[.slice a n c, .slice a2 n d] 24)).alloc (.cells #[.int .i64 P, .int .i64 D] 28) = W0 := ⟨_, rfl⟩
  have G0 := Lib.hid (show Gr w W0 by rw [← hW0]; exact ((Gr.refl w).alloc _).alloc _)
  have B1 := Lib.hid (show BoxO W0 w.heap.size (.slice a n c) (.slice a2 n d) by rw [← hW0]; exact (BoxO.new rfl).gr ((Gr.refl _).alloc _))
  have B2 := Lib.hid (show Box2 W0 (w.heap.size + 1) P D by rw [← hW0]; exact Box2.new (by simp))
  have hwz := Lib.hid (show w.heap.size + 1 < W0.heap.size by rw [← hW0]; simp)
  obtain ⟨p0, p1⟩ := B1.out
  obtain ⟨s0, s1, _⟩ := B2.out
  have C := Lib.hid (show Calls Tryz.prog 44 #[.agg #[.slice a n c, .slice a2 n d], .slice a3 q c3, .agg #[.int .i64 P, .int .i64 D]] W0 (RetO (.slice a n c) (.slice a2 n d) (sm f n) (sm g n) 0 W0) from by
    have h := priced_any a a2 a3 n c d q c3 f g h P D W0 (by omega) (by omega) (hr.gr G0.out) (hs.gr G0.out) (ht.gr G0.out) (vO_iff.2 hv)
    rwa [prE_ok (vO_iff.2 hv) (cutB_iff.2 hc) (prB_iff.2 hp)] at h)
  have CG := Lib.hid (fun w' (k : Gr w w') => gain_any a a2 a3 n c d q c3 f g h P D w' (hr.gr k) (hs.gr k) (ht.gr k) hv hc hp)
  have CD := Lib.hid (fun w' (k : Gr w w') => dearest_any a a2 n c d f g P D w' (hr.gr k) (hs.gr k) hv hp (hT.gr k))
  have CH := Lib.hid (show ∀ w', Gr w w' → ∀ av cv, RdI w' av (cS n (drB f g n P D)).length (nf (cS n (drB f g n P D))) → Calls Tryz.prog 45 #[.agg #[.slice a n c, .slice a2 n d, .int .i64 (sm f n), .int .i64 (sm g n)], .slice av (cS n (drB f g n P D)).length cv, .agg #[.int .i64 P, .int .i64 D]] w' fun e w'' => e = .returned (.int .i64 (topV f g n P D)) ∧ Gr w' w'' from fun w' k av cv hx => by
    have h := gain_any a a2 av n c d _ cv f g _ P D w' (hr.gr k) (hs.gr k) hx hv (cS_cut n _) hp
    rwa [gnV_onL] at h)
  clear hr hs ht hv hc hp hT
  generalize gnV f g n P D h q = V at *
  generalize topV f g n P D = T at *
  generalize cS n (drB f g n P D) = L at *
  generalize sm f n = sf at *
  generalize sm g n = sg at *
  go_enter Tryz.func17, Tryz.ntmps17
  go_wp2_with (go_at_call 44; (with_reducible refine C.out.mono ?_); rintro e w1 ⟨rfl, g1⟩; have g1' := g1.alloc (.cells #[.slice a n c, .slice a2 n d, .int .i64 sf, .int .i64 sg] 57); obtain ⟨W1, hW1⟩ : ∃ W1, w1.alloc (.cells #[.slice a n c, .slice a2 n d, .int .i64 sf, .int .i64 sg] 57) = W1 := ⟨_, rfl⟩; rw [hW1] at g1'; have G1 := Lib.hid (G0.out.trans g1'); have X1 := Lib.hid (show Box4 W1 w1.heap.size (.slice a n c) (.slice a2 n d) (.int .i64 sf) (.int .i64 sg) by rw [← hW1]; exact Box4.new rfl); have P1 := Lib.hid (B2.out.gr g1'); clear g1 g1' p0 p1 s0 s1; obtain ⟨s0, s1, _⟩ := P1.out; obtain ⟨r0, r1, r2, r3, _⟩ := X1.out)
  refine (wpIn_wide (n := 3)).1 ?_
  refine wpIn_region_held (Kp w [(w1.heap.size, 0, .slice a n c), (w1.heap.size, 1, .slice a2 n d), (w1.heap.size, 2, .int .i64 sf), (w1.heap.size, 3, .int .i64 sg), (w.heap.size + 1, 0, .int .i64 P), (w.heap.size + 1, 1, .int .i64 D)]) 13 (by kernel_rfl) rfl rfl ?_
  have hS : Kp w [(w1.heap.size, 0, .slice a n c), (w1.heap.size, 1, .slice a2 n d), (w1.heap.size, 2, .int .i64 sf), (w1.heap.size, 3, .int .i64 sg), (w.heap.size + 1, 0, .int .i64 P), (w.heap.size + 1, 1, .int .i64 D)] W1.drew := Kp.drew ⟨G1.out, by
    intro x hx
    rcases List.mem_cons.1 hx with rfl | hx; exact (by assumption : W1.cell? ⟨w1.heap.size, 0, none⟩ = some (.slice a n c))
    rcases List.mem_cons.1 hx with rfl | hx; exact (by assumption : W1.cell? ⟨w1.heap.size, 1, none⟩ = some (.slice a2 n d))
    rcases List.mem_cons.1 hx with rfl | hx; exact (by assumption : W1.cell? ⟨w1.heap.size, 2, none⟩ = some (.int .i64 sf))
    rcases List.mem_cons.1 hx with rfl | hx; exact (by assumption : W1.cell? ⟨w1.heap.size, 3, none⟩ = some (.int .i64 sg))
    rcases List.mem_cons.1 hx with rfl | hx; exact (by assumption : W1.cell? ⟨w.heap.size + 1, 0, none⟩ = some (.int .i64 P))
    rcases List.mem_cons.1 hx with rfl | hx; exact (by assumption : W1.cell? ⟨w.heap.size + 1, 1, none⟩ = some (.int .i64 D))
    exact absurd hx (by simp)⟩
  clear r0 r1 r2 r3 s0 s1
  iterate 7 (first
    | (refine wpAnyHIn_take 0 (v := ?_) rfl (by kernel_rfl) (by kernel_rfl) (by kernel_rfl) (by decide +kernel) (fun _ _ _ h => h) (fun _ _ _ => trivial) (by rfl) (fun w' hSw => ?_) hS ?_; rotate_left 1; (focus (have z0 : w'.cell? ⟨w1.heap.size, 0, none⟩ = some (.slice a n c) := hSw.2 _ (.head _); have z1 : w'.cell? ⟨w1.heap.size, 1, none⟩ = some (.slice a2 n d) := hSw.2 _ (.tail _ (.head _)); have z2 : w'.cell? ⟨w1.heap.size, 2, none⟩ = some (.int .i64 sf) := hSw.2 _ (.tail _ (.tail _ (.head _))); have z3 : w'.cell? ⟨w1.heap.size, 3, none⟩ = some (.int .i64 sg) := hSw.2 _ (.tail _ (.tail _ (.tail _ (.head _)))); have z4 : w'.cell? ⟨w.heap.size + 1, 0, none⟩ = some (.int .i64 P) := hSw.2 _ (.tail _ (.tail _ (.tail _ (.tail _ (.head _))))); have z5 : w'.cell? ⟨w.heap.size + 1, 1, none⟩ = some (.int .i64 D) := hSw.2 _ (.tail _ (.tail _ (.tail _ (.tail _ (.tail _ (.head _)))))); go_simp; try with_reducible rfl)); simp only [Act.put, List.setIfInBounds_toArray, List.set_cons_zero, List.set_cons_succ])
    | (refine wpAnyHIn_take 1 (v := ?_) rfl (by kernel_rfl) (by kernel_rfl) (by kernel_rfl) (by decide +kernel) (fun _ _ _ h => h) (fun _ _ _ => trivial) (by rfl) (fun w' hSw => ?_) hS ?_; rotate_left 1; (focus (have z0 : w'.cell? ⟨w1.heap.size, 0, none⟩ = some (.slice a n c) := hSw.2 _ (.head _); have z1 : w'.cell? ⟨w1.heap.size, 1, none⟩ = some (.slice a2 n d) := hSw.2 _ (.tail _ (.head _)); have z2 : w'.cell? ⟨w1.heap.size, 2, none⟩ = some (.int .i64 sf) := hSw.2 _ (.tail _ (.tail _ (.head _))); have z3 : w'.cell? ⟨w1.heap.size, 3, none⟩ = some (.int .i64 sg) := hSw.2 _ (.tail _ (.tail _ (.tail _ (.head _)))); have z4 : w'.cell? ⟨w.heap.size + 1, 0, none⟩ = some (.int .i64 P) := hSw.2 _ (.tail _ (.tail _ (.tail _ (.tail _ (.head _))))); have z5 : w'.cell? ⟨w.heap.size + 1, 1, none⟩ = some (.int .i64 D) := hSw.2 _ (.tail _ (.tail _ (.tail _ (.tail _ (.tail _ (.head _)))))); go_simp; try with_reducible rfl)); simp only [Act.put, List.setIfInBounds_toArray, List.set_cons_zero, List.set_cons_succ])
    | (refine wpAnyHIn_take 2 (v := ?_) rfl (by kernel_rfl) (by kernel_rfl) (by kernel_rfl) (by decide +kernel) (fun _ _ _ h => h) (fun _ _ _ => trivial) (by rfl) (fun w' hSw => ?_) hS ?_; rotate_left 1; (focus (have z0 : w'.cell? ⟨w1.heap.size, 0, none⟩ = some (.slice a n c) := hSw.2 _ (.head _); have z1 : w'.cell? ⟨w1.heap.size, 1, none⟩ = some (.slice a2 n d) := hSw.2 _ (.tail _ (.head _)); have z2 : w'.cell? ⟨w1.heap.size, 2, none⟩ = some (.int .i64 sf) := hSw.2 _ (.tail _ (.tail _ (.head _))); have z3 : w'.cell? ⟨w1.heap.size, 3, none⟩ = some (.int .i64 sg) := hSw.2 _ (.tail _ (.tail _ (.tail _ (.head _)))); have z4 : w'.cell? ⟨w.heap.size + 1, 0, none⟩ = some (.int .i64 P) := hSw.2 _ (.tail _ (.tail _ (.tail _ (.tail _ (.head _))))); have z5 : w'.cell? ⟨w.heap.size + 1, 1, none⟩ = some (.int .i64 D) := hSw.2 _ (.tail _ (.tail _ (.tail _ (.tail _ (.tail _ (.head _)))))); go_simp; try with_reducible rfl)); simp only [Act.put, List.setIfInBounds_toArray, List.set_cons_zero, List.set_cons_succ])
    | (refine wpAnyHIn_take 4 (v := ?_) rfl (by kernel_rfl) (by kernel_rfl) (by kernel_rfl) (by decide +kernel) (fun _ _ _ h => h) (fun _ _ _ => trivial) (by rfl) (fun w' hSw => ?_) hS ?_; rotate_left 1; (focus (have z0 : w'.cell? ⟨w1.heap.size, 0, none⟩ = some (.slice a n c) := hSw.2 _ (.head _); have z1 : w'.cell? ⟨w1.heap.size, 1, none⟩ = some (.slice a2 n d) := hSw.2 _ (.tail _ (.head _)); have z2 : w'.cell? ⟨w1.heap.size, 2, none⟩ = some (.int .i64 sf) := hSw.2 _ (.tail _ (.tail _ (.head _))); have z3 : w'.cell? ⟨w1.heap.size, 3, none⟩ = some (.int .i64 sg) := hSw.2 _ (.tail _ (.tail _ (.tail _ (.head _)))); have z4 : w'.cell? ⟨w.heap.size + 1, 0, none⟩ = some (.int .i64 P) := hSw.2 _ (.tail _ (.tail _ (.tail _ (.tail _ (.head _))))); have z5 : w'.cell? ⟨w.heap.size + 1, 1, none⟩ = some (.int .i64 D) := hSw.2 _ (.tail _ (.tail _ (.tail _ (.tail _ (.tail _ (.head _)))))); go_simp; try with_reducible rfl)); simp only [Act.put, List.setIfInBounds_toArray, List.set_cons_zero, List.set_cons_succ])
    | (refine wpAnyHIn_take 5 (v := ?_) rfl (by kernel_rfl) (by kernel_rfl) (by kernel_rfl) (by decide +kernel) (fun _ _ _ h => h) (fun _ _ _ => trivial) (by rfl) (fun w' hSw => ?_) hS ?_; rotate_left 1; (focus (have z0 : w'.cell? ⟨w1.heap.size, 0, none⟩ = some (.slice a n c) := hSw.2 _ (.head _); have z1 : w'.cell? ⟨w1.heap.size, 1, none⟩ = some (.slice a2 n d) := hSw.2 _ (.tail _ (.head _)); have z2 : w'.cell? ⟨w1.heap.size, 2, none⟩ = some (.int .i64 sf) := hSw.2 _ (.tail _ (.tail _ (.head _))); have z3 : w'.cell? ⟨w1.heap.size, 3, none⟩ = some (.int .i64 sg) := hSw.2 _ (.tail _ (.tail _ (.tail _ (.head _)))); have z4 : w'.cell? ⟨w.heap.size + 1, 0, none⟩ = some (.int .i64 P) := hSw.2 _ (.tail _ (.tail _ (.tail _ (.tail _ (.head _))))); have z5 : w'.cell? ⟨w.heap.size + 1, 1, none⟩ = some (.int .i64 D) := hSw.2 _ (.tail _ (.tail _ (.tail _ (.tail _ (.tail _ (.head _)))))); go_simp; try with_reducible rfl)); simp only [Act.put, List.setIfInBounds_toArray, List.set_cons_zero, List.set_cons_succ])
    | (refine wpAnyHIn_take 6 (v := ?_) rfl (by kernel_rfl) (by kernel_rfl) (by kernel_rfl) (by decide +kernel) (fun _ _ _ h => h) (fun _ _ _ => trivial) (by rfl) (fun w' hSw => ?_) hS ?_; rotate_left 1; (focus (have z0 : w'.cell? ⟨w1.heap.size, 0, none⟩ = some (.slice a n c) := hSw.2 _ (.head _); have z1 : w'.cell? ⟨w1.heap.size, 1, none⟩ = some (.slice a2 n d) := hSw.2 _ (.tail _ (.head _)); have z2 : w'.cell? ⟨w1.heap.size, 2, none⟩ = some (.int .i64 sf) := hSw.2 _ (.tail _ (.tail _ (.head _))); have z3 : w'.cell? ⟨w1.heap.size, 3, none⟩ = some (.int .i64 sg) := hSw.2 _ (.tail _ (.tail _ (.tail _ (.head _)))); have z4 : w'.cell? ⟨w.heap.size + 1, 0, none⟩ = some (.int .i64 P) := hSw.2 _ (.tail _ (.tail _ (.tail _ (.tail _ (.head _))))); have z5 : w'.cell? ⟨w.heap.size + 1, 1, none⟩ = some (.int .i64 D) := hSw.2 _ (.tail _ (.tail _ (.tail _ (.tail _ (.tail _ (.head _)))))); go_simp; try with_reducible rfl)); simp only [Act.put, List.setIfInBounds_toArray, List.set_cons_zero, List.set_cons_succ])
    | (refine wpAnyHIn_take 8 (v := ?_) rfl (by kernel_rfl) (by kernel_rfl) (by kernel_rfl) (by decide +kernel) (fun _ _ _ h => h) (fun _ _ _ => trivial) (by rfl) (fun w' hSw => ?_) hS ?_; rotate_left 1; (focus (have z0 : w'.cell? ⟨w1.heap.size, 0, none⟩ = some (.slice a n c) := hSw.2 _ (.head _); have z1 : w'.cell? ⟨w1.heap.size, 1, none⟩ = some (.slice a2 n d) := hSw.2 _ (.tail _ (.head _)); have z2 : w'.cell? ⟨w1.heap.size, 2, none⟩ = some (.int .i64 sf) := hSw.2 _ (.tail _ (.tail _ (.head _))); have z3 : w'.cell? ⟨w1.heap.size, 3, none⟩ = some (.int .i64 sg) := hSw.2 _ (.tail _ (.tail _ (.tail _ (.head _)))); have z4 : w'.cell? ⟨w.heap.size + 1, 0, none⟩ = some (.int .i64 P) := hSw.2 _ (.tail _ (.tail _ (.tail _ (.tail _ (.head _))))); have z5 : w'.cell? ⟨w.heap.size + 1, 1, none⟩ = some (.int .i64 D) := hSw.2 _ (.tail _ (.tail _ (.tail _ (.tail _ (.tail _ (.head _)))))); go_simp; try with_reducible rfl)); simp only [Act.put, List.setIfInBounds_toArray, List.set_cons_zero, List.set_cons_succ]))
  refine wpAnyHIn_ready [3] (by kernel_rfl) (by simp) ?_
  refine AllHIn.cons rfl (by rfl) (fun K hK => ?_) AllHIn.nil
  go_simp
  refine ⟨trivial, ?_⟩
  refine (callsIn_wide.2 (CG.out _ hS.1)).mono ?_
  rintro e wX ⟨rfl, gX⟩
  have hS := hS.grow gX; clear gX
  refine hK.out _ _ hS ?_
  clear hK K
  refine wpAnyHIn_ready [7] (by kernel_rfl) (by simp) ?_
  refine AllHIn.cons rfl (by rfl) (fun K hK => ?_) AllHIn.nil
  go_simp
  refine ⟨trivial, ?_⟩
  refine (callsIn_wide.2 (CD.out _ hS.1)).mono ?_
  rintro e wX ⟨av, cv, rfl, _, _, lX, gX⟩
  have hL := Lib.hid lX; have hS := hS.grow gX; clear gX lX
  refine hK.out _ _ hS ?_
  clear hK K
  refine wpAnyHIn_ready [9] (by kernel_rfl) (by simp) ?_
  refine AllHIn.cons rfl (by rfl) (fun K hK => ?_) AllHIn.nil
  go_simp
  refine ⟨trivial, ?_⟩
  refine (callsIn_wide.2 (CH.out _ hS.1 _ _ hL.out)).mono ?_
  rintro e wX ⟨rfl, gX⟩
  have hS := hS.grow gX; clear gX
  refine hK.out _ _ hS ?_
  clear hK K
  iterate 3 (first
    | (refine wpAnyHIn_take 10 (v := ?_) rfl (by kernel_rfl) (by kernel_rfl) (by kernel_rfl) (by decide +kernel) (fun _ _ _ h => h) (fun _ _ _ => trivial) (by rfl) (fun w' hSw => ?_) hS ?_; rotate_left 1; (focus (skip; go_simp; try with_reducible rfl)); simp only [Act.put, List.setIfInBounds_toArray, List.set_cons_zero, List.set_cons_succ])
    | (refine wpAnyHIn_take 11 (v := ?_) rfl (by kernel_rfl) (by kernel_rfl) (by kernel_rfl) (by decide +kernel) (fun _ _ _ h => h) (fun _ _ _ => trivial) (by rfl) (fun w' hSw => ?_) hS ?_; rotate_left 1; (focus (skip; go_simp; try with_reducible rfl)); simp only [Act.put, List.setIfInBounds_toArray, List.set_cons_zero, List.set_cons_succ])
    | (refine wpAnyHIn_take 12 (v := ?_) rfl (by kernel_rfl) (by kernel_rfl) (by kernel_rfl) (by decide +kernel) (fun _ _ _ h => h) (fun _ _ _ => trivial) (by rfl) (fun w' hSw => ?_) hS ?_; rotate_left 1; (focus (skip; go_simp; try with_reducible rfl)); simp only [Act.put, List.setIfInBounds_toArray, List.set_cons_zero, List.set_cons_succ]))
  refine wpAnyHIn_done (by kernel_rfl) ?_ _
  go_wp2_with fail
  exact bodyPost_ret (v := .tuple #[.bool (V == T), .int .i64 0]) (by simp [results, Tryz.results17, go_sem]) rfl ⟨rfl, hS.1⟩

end Go.Proofs.YtohcnicadbpbbaaGreatDoor
