/- Contracts of chapter 1: where, and how much, two clocks differ most, by the reference. -/
import Derived.Test.YtdlbgelidcfmiaaW29
namespace Go.Proofs.Ytdlbgelidcfmiaa
open Go.RowKit Go.Firn

/-- A place, a ratio and an error. -/
def RetIRE (x p q err : Int) (w : World) (e : Ending) (w' : World) : Prop := e = .returned (.tuple #[.int .i64 x, .agg #[.int .i64 p, .int .i64 q], .int .i64 err]) ∧ Gr w w'

def RetRf (p q : Int → Int) (F G : Int) (w : World) (e : Ending) (w' : World) : Prop := ∃ m, RfM p q F (G + 1) m ∧ RetIRE m (p m) (q m) 0 w e w'

theorem ap_bd {n n' : Nat} {L T L' T' : Nat → Int} {x : Int} (hv : vK n L T = true) (hv' : vK n' L' T' = true) (hx : -200000 ≤ x ∧ x ≤ 200000) :
    (0 ≤ apN n L T n' L' T' x ∧ apN n L T n' L' T' x ≤ 4611686018427387904) ∧ (0 < apD n L T n' L' T' x ∧ apD n L T n' L' T' x ≤ 4611686018427387904) := by
  have b1 := AN_bd (x := x) hv hx
  have b2 := AD_bd x hv
  have b3 := AN_bd (x := x) hv' hx
  have b4 := AD_bd x hv'
  have m1 := mul_bd (a := AN n L T x) (b := AD n' L' T' x) (A := 40000000000) (B := 100000) (by omega) (by omega) (by omega) (by omega)
  have m2 := mul_bd (a := AN n' L' T' x) (b := AD n L T x) (A := 40000000000) (B := 100000) (by omega) (by omega) (by omega) (by omega)
  have m3 := mul_bd (a := AD n L T x) (b := AD n' L' T' x) (A := 100000) (B := 100000) (by omega) (by omega) (by omega) (by omega)
  have p1 := apN_nonneg (n := n) (L := L) (T := T) (n' := n') (L' := L') (T' := T') x
  have p2 := apD_pos hv hv' x
  have p3 := rD_le (max (apM n L T n' L' T' x) (-apM n L T n' L' T' x)) (apE_pos hv hv' x)
  have p4 := rN_le (n := max (apM n L T n' L' T' x) (-apM n L T n' L' T' x)) (d := apE n L T n' L' T' x) (by omega)
  have e1 : apM n L T n' L' T' x = AN n L T x * AD n' L' T' x - AN n' L' T' x * AD n L T x := rfl
  have e2 : apE n L T n' L' T' x = AD n L T x * AD n' L' T' x := rfl
  have e3 : apN n L T n' L' T' x = rN (max (apM n L T n' L' T' x) (-apM n L T n' L' T' x)) (apE n L T n' L' T' x) := rfl
  have e4 : apD n L T n' L' T' x = rD (max (apM n L T n' L' T' x) (-apM n L T n' L' T' x)) (apE n L T n' L' T' x) := rfl
  rw [← e3] at p4
  rw [← e4] at p3
  omega

set_option maxRecDepth 100000 in
set_option maxHeartbeats 2000000 in
theorem refApart_ok (a a' : Option Addr) (n c n' c' : Nat) (L T L' T' : Nat → Int) (F G : Int) (w : World) (hn : n ≤ 9223372036854775807) (hn' : n' ≤ 9223372036854775807) (hr : RdM w a n L T) (hr' : RdM w a' n' L' T') (hv : vK n L T = true) (hv' : vK n' L' T' = true)
    (hF : 0 ≤ F ∧ F ≤ 100000) (hG : 0 ≤ G ∧ G ≤ 100000) (hFG : F ≤ G) :
    Calls Try.prog 51 #[.slice a n c, .slice a' n' c', .int .i64 F, .int .i64 G] w (RetRf (apN n L T n' L' T') (apD n L T n' L' T') F G w) := by
  have Q := Lib.hid (fun y => apD_pos hv hv' y)
  have BD := Lib.hid (fun (x : Int) (hx : -200000 ≤ x ∧ x ≤ 200000) => ap_bd hv hv' hx)
  have RA := Lib.hid (fun (x : Int) (hx : -200000 ≤ x ∧ x ≤ 200000) w1 h h' => refapart_any a a' n c n' c' L T L' T' x w1 hn hn' h h' hv hv' hx)
  have V1 := Lib.hid (fun w1 h => show Calls Try.prog 34 #[.slice a n c] w1 (RetB true w1) by have := refValidClock_any a n c L T w1 hn h; rwa [hv] at this)
  have V2 := Lib.hid (fun w1 h => show Calls Try.prog 34 #[.slice a' n' c'] w1 (RetB true w1) by have := refValidClock_any a' n' c' L' T' w1 hn' h; rwa [hv'] at this)
  have HR := Lib.hid hr
  have HR' := Lib.hid hr'
  have T1 := Lib.hid (fun w1 => IsTick_v (n := F) (btw_true.2 hF) w1)
  have T2 := Lib.hid (fun w1 => IsTick_v (n := G) (btw_true.2 hG) w1)
  clear hv hv' hr hr'
  generalize apN n L T n' L' T' = p at *
  generalize apD n L T n' L' T' = q at *
  have g0 : Gr w (w.alloc (.cells #[.int .i64 0, .int .i64 0] 37)) := (Gr.refl w).alloc _
  have B9 : Hid (Box2 (w.alloc (.cells #[.int .i64 0, .int .i64 0] 37)) w.heap.size 0 0) := Lib.hid (Box2.new rfl)
  have d1 : decide (G < F) = false := by simp; omega
  have q1 : IntKind.i64.wrap (F + 1) = F + 1 := IntWalk.i64_in _ (by omega)
  go_enter Try.func51, Try.ntmps51
  go_wp2_with fail
  refine (V1.out _ (HR.out.gr g0)).mono ?_
  rintro e w1 ⟨rfl, g2⟩
  replace g0 := g0.trans g2
  replace B9 := Lib.hid (B9.out.gr g2)
  clear g2
  go_wp2_with fail
  refine (V2.out _ (HR'.out.gr g0)).mono ?_
  rintro e w2 ⟨rfl, g2⟩
  replace g0 := g0.trans g2
  replace B9 := Lib.hid (B9.out.gr g2)
  clear g2
  go_wp2_with (first | (go_at_call 65; refine (T1.out _).mono ?_; rintro e w1 ⟨rfl, rfl⟩) | (go_at_call 65; refine (T2.out _).mono ?_; rintro e w1 ⟨rfl, rfl⟩))
  refine (RA.out F (by omega) _ (HR.out.gr g0) (HR'.out.gr g0)).mono ?_
  rintro e w3 ⟨rfl, g2⟩
  replace g0 := g0.trans g2
  replace B9 := Lib.hid (B9.out.gr g2)
  clear g2
  have hz9 : w.heap.size < w3.heap.size := World.block_lt_of_cell? w3 _ B9.out.1
  have B12 : Hid (Box2 (w3.alloc (.cells #[.int .i64 (p F), .int .i64 (q F)] 37)) w3.heap.size (p F) (q F)) := Lib.hid (Box2.new rfl)
  replace B9 := Lib.hid (B9.out.gr ((Gr.refl _).alloc (.cells #[.int .i64 (p F), .int .i64 (q F)] 37)))
  replace g0 := g0.alloc (.cells #[.int .i64 (p F), .int .i64 (q F)] 37)
  go_wp2_with fail
  go_loopw [11, 13, 14] (fun wh x _ wr => ∃ m X : Int, wh = .int .i64 m ∧ x = .int .i64 X ∧ F + 1 ≤ X ∧ X ≤ G + 1 ∧ Hid (RfM p q F X m) ∧ Hid (Box2 wr w3.heap.size (p m) (q m)) ∧ Hid (Box2 wr w.heap.size 0 0) ∧ Gr w wr) (fun _ x _ _ => (G + 1 - intOf x).toNat)
  case atStart => exact ⟨F, F + 1, rfl, rfl, by omega, by omega, RfM.start F, B12, B9, g0⟩
  case round =>
    obtain ⟨m, X, rfl, rfl, hX1, hX2, HM, hb12, hb9, g⟩ := hrel
    have hm := HM.out.1
    clear B12 B9 g0
    by_cases hX : X ≤ G
    · have d2 : decide (X ≤ G) = true := by simp; exact hX
      have q2 : IntKind.i64.wrap (X + 1) = X + 1 := IntWalk.i64_in _ (by omega)
      have bx := BD.out X (by omega)
      have bm := BD.out m (by omega)
      have MO := Lib.hid (fun w1 => More_any (p X) (q X) (p m) (q m) w1 bx.1 bx.2 bm.1 bm.2)
      clear bx bm
      have hl := Lib.hid hX
      have hl1 := Lib.hid hX1
      have hl2 := Lib.hid hm
      clear hX hX1 hX2 hm
      go_wp2_with fail
      refine (RA.out X (by have := hl.out; have := hl1.out; omega) _ (HR.out.gr g) (HR'.out.gr g)).mono ?_
      rintro e w4 ⟨rfl, g2⟩
      have g3 := g2.trans ((Gr.refl w4).alloc (.cells #[.int .i64 (p X), .int .i64 (q X)] 37))
      have B12 := Lib.hid (hb12.out.gr g3)
      have B9 := Lib.hid (hb9.out.gr g3)
      have g4 := g.trans g3
      have h12 : w3.heap.size < w4.heap.size := World.block_lt_of_cell? w4 _ (hb12.out.gr g2).1
      have B14 : Hid (Box2 (w4.alloc (.cells #[.int .i64 (p X), .int .i64 (q X)] 37)) w4.heap.size (p X) (q X)) := Lib.hid (Box2.new rfl)
      clear g g2 g3 hb12 hb9
      obtain ⟨s0, s1, f0, f1⟩ := id B12.out
      obtain ⟨s2, s3, f2, f3⟩ := id B14.out
      go_wp2_with fail
      refine (MO.out _).mono ?_
      rintro e w5 ⟨rfl, g2⟩
      replace B12 := Lib.hid (B12.out.gr g2)
      replace B14 := Lib.hid (B14.out.gr g2)
      replace B9 := Lib.hid (B9.out.gr g2)
      replace g4 := g4.trans g2
      clear g2 s0 s1 f0 f1 s2 s3 f2 f3
      obtain ⟨s0, s1, f0, f1⟩ := id B12.out
      obtain ⟨s2, s3, f2, f3⟩ := id B14.out
      by_cases ht : p m * q X < p X * q m
      · have d3 : decide (p m * q X < p X * q m) = true := by simp; exact ht
        have HT := Lib.hid (HM.out.yes Q.out (by have := hl1.out; omega) ht)
        clear ht
        rw [d3]
        clear d3
        go_wp2_with fail
        go_region
        all_goals go_wp2_with fail
        go_roundw
        case rel => exact ⟨X, X + 1, rfl, rfl, by have := hl1.out; omega, by have := hl.out; omega, HT, Lib.hid B12.out.put.drew, Lib.hid (B9.out.far (by omega) _ _).drew, ((g4.setAt (by omega) _).setAt (by omega) _).drew⟩
        case measure => simp [intOf]; have := hl.out; omega
      · have d3 : decide (p m * q X < p X * q m) = false := by simp; omega
        have HT := Lib.hid (HM.out.no ht)
        clear ht
        rw [d3]
        clear d3
        go_wp2_with fail
        go_roundw
        case rel => exact ⟨m, X + 1, rfl, rfl, by have := hl1.out; omega, by have := hl.out; omega, HT, B12, B9, g4⟩
        case measure => simp [intOf]; have := hl.out; omega
    · have d2 : decide (X ≤ G) = false := by simp; omega
      obtain rfl : X = G + 1 := by omega
      clear hX hX1 hX2 hm
      obtain ⟨s0, s1, f0, f1⟩ := id hb12.out
      obtain ⟨s2, s3, f2, f3⟩ := id hb9.out
      have hz : w.heap.size < wr.heap.size := World.block_lt_of_cell? wr _ s2
      obtain ⟨y0, y1, -, -⟩ := (hb9.out.put (x' := p m) (y' := q m)).drew
      go_wp2_with fail
      go_region
      all_goals go_wp2_with fail
      clear s0 s1 s2 s3
      refine bodyPost_ret (v := .tuple #[.int .i64 m, .agg #[.int .i64 (p m), .int .i64 (q m)], .int .i64 0]) (by simp [results, Try.results51, go_sem, y0, y1]) rfl ⟨m, HM.out, rfl, ?_⟩
      exact ((g.setAt (by omega) _).setAt (by omega) _).drew

end Go.Proofs.Ytdlbgelidcfmiaa
