/- Contracts of chapter 1: how much two clocks differ at a local time. -/
import Derived.Test.YtdlbgelidcfmiaaGreatDoorW26
import Derived.Test.YtdlbgelidcfmiaaGreatDoorP8
namespace Go.Proofs.YtdlbgelidcfmiaaGreatDoor
open Go.RowKit Go.Firn

/-- How much two clocks differ at x: above the fraction's line, and below it. -/
def apM (n : Nat) (L T : Nat → Int) (n' : Nat) (L' T' : Nat → Int) (x : Int) : Int := AN n L T x * AD n' L' T' x - AN n' L' T' x * AD n L T x
def apE (n : Nat) (L T : Nat → Int) (n' : Nat) (L' T' : Nat → Int) (x : Int) : Int := AD n L T x * AD n' L' T' x
def apN (n : Nat) (L T : Nat → Int) (n' : Nat) (L' T' : Nat → Int) (x : Int) : Int := rN (max (apM n L T n' L' T' x) (-apM n L T n' L' T' x)) (apE n L T n' L' T' x)
def apD (n : Nat) (L T : Nat → Int) (n' : Nat) (L' T' : Nat → Int) (x : Int) : Int := rD (max (apM n L T n' L' T' x) (-apM n L T n' L' T' x)) (apE n L T n' L' T' x)

theorem linetime {n : Nat} {L T : Nat → Int} {x : Int} (hv : vK n L T = true) (hx : -200000 ≤ x ∧ x ≤ 200000) (w : World) :
    Calls Tryz.prog 34 #[.agg #[.int .i64 (L (ix (pA L x) n)), .int .i64 (T (ix (pA L x) n)), .int .i64 (L (ix (pA L x) n + 1)), .int .i64 (T (ix (pA L x) n + 1))], .int .i64 x] w (RetR (AN n L T x) (AD n L T x) w) := by
  obtain ⟨a1, a2, a3, a4, a5, a6⟩ := line_bd hv (pA L x)
  exact time_any _ _ _ _ x w a1 a2 a3 a4 a5 hx

set_option maxRecDepth 100000 in
set_option maxHeartbeats 300000 in
theorem apart_any (a a' : Option Addr) (n c n' c' : Nat) (L T L' T' : Nat → Int) (x : Int) (w : World) (hn : n ≤ 9223372036854775807) (hn' : n' ≤ 9223372036854775807) (hr : RdM w a n L T) (hr' : RdM w a' n' L' T') (hv : vK n L T = true) (hv' : vK n' L' T' = true) (hx : -200000 ≤ x ∧ x ≤ 200000) :
    Calls Tryz.prog 45 #[.slice a n c, .slice a' n' c', .int .i64 x] w (RetR (apN n L T n' L' T' x) (apD n L T n' L' T' x) w) := by
  have b1 := AN_bd (x := x) hv hx
  have b2 := AD_bd x hv
  have b3 := AN_bd (x := x) hv' hx
  have b4 := AD_bd x hv'
  have h2 := (vK_true.1 hv).1
  have h2' := (vK_true.1 hv').1
  have HN := Lib.hid (show rN (max (AN n L T x * AD n' L' T' x - AN n' L' T' x * AD n L T x) (-(AN n L T x * AD n' L' T' x - AN n' L' T' x * AD n L T x))) (AD n L T x * AD n' L' T' x) = apN n L T n' L' T' x from rfl)
  have HD := Lib.hid (show rD (max (AN n L T x * AD n' L' T' x - AN n' L' T' x * AD n L T x) (-(AN n L T x * AD n' L' T' x - AN n' L' T' x * AD n L T x))) (AD n L T x * AD n' L' T' x) = apD n L T n' L' T' x from rfl)
  have A1 := Lib.hid (fun w1 h => at_any a n c L T x w1 hn h2 h)
  have A2 := Lib.hid (fun w1 => linetime hv hx w1)
  have A3 := Lib.hid (fun w1 h => at_any a' n' c' L' T' x w1 hn' h2' h)
  have A4 := Lib.hid (fun w1 => linetime hv' hx w1)
  clear hv hv'
  generalize apN n L T n' L' T' x = P at *
  generalize apD n L T n' L' T' x = Q at *
  generalize AN n L T x = N at *
  generalize AD n L T x = D at *
  generalize AN n' L' T' x = M at *
  generalize AD n' L' T' x = E at *
  have m1 := mul_bd (a := N) (b := E) (A := 40000000000) (B := 100000) (by omega) (by omega) (by omega) (by omega)
  have m2 := mul_bd (a := M) (b := D) (A := 40000000000) (B := 100000) (by omega) (by omega) (by omega) (by omega)
  have m3 := mul_bd (a := D) (b := E) (A := 100000) (B := 100000) (by omega) (by omega) (by omega) (by omega)
  have m8 : 0 < D * E := Int.mul_pos (by omega) (by omega)
  have q1 : IntKind.i64.wrap (N * E) = N * E := IntWalk.i64_in _ (by omega)
  have q2 : IntKind.i64.wrap (M * D) = M * D := IntWalk.i64_in _ (by omega)
  have q3 : IntKind.i64.wrap (N * E - M * D) = N * E - M * D := IntWalk.i64_in _ (by omega)
  have q4 : IntKind.i64.wrap (D * E) = D * E := IntWalk.i64_in _ (by omega)
  have q5 : IntKind.i64.wrap (-(N * E - M * D)) = -(N * E - M * D) := IntWalk.i64_in _ (by omega)
  have R := Lib.hid (fun w1 => show Calls Tryz.prog 41 #[.int .i64 (max (N * E - M * D) (-(N * E - M * D))), .int .i64 (D * E)] w1 (RetR P Q w1) by
    have := ratio_any (max (N * E - M * D) (-(N * E - M * D))) (D * E) w1 (Sz.of (by omega) (by omega)) (Sz.of (by omega) (by omega)) m8; rwa [HN.out, HD.out] at this)
  have R1 := Lib.hid (fun (h : -(N * E - M * D) ≤ N * E - M * D) w1 => show Calls Tryz.prog 41 #[.int .i64 (N * E - M * D), .int .i64 (D * E)] w1 (RetR P Q w1) by
    have := R.out w1; rwa [show max (N * E - M * D) (-(N * E - M * D)) = N * E - M * D from Int.max_eq_left h] at this)
  have R2 := Lib.hid (fun (h : N * E - M * D < -(N * E - M * D)) w1 => show Calls Tryz.prog 41 #[.int .i64 (-(N * E - M * D)), .int .i64 (D * E)] w1 (RetR P Q w1) by
    have := R.out w1; rwa [show max (N * E - M * D) (-(N * E - M * D)) = -(N * E - M * D) from Int.max_eq_right (by omega)] at this)
  clear R HN HD b1 b2 b3 b4 m1 m2 m3 m8
  have g0 : Gr w (w.alloc (.cells #[.int .i64 0, .int .i64 0] 37)) := (Gr.refl w).alloc _
  have B6 : Box2 (w.alloc (.cells #[.int .i64 0, .int .i64 0] 37)) w.heap.size 0 0 := Box2.new rfl
  go_enter Tryz.func45, Tryz.ntmps45
  go_wp2_with fail
  refine (A1.out _ (hr.gr g0)).mono ?_
  rintro e w1 ⟨rfl, g2⟩
  replace g0 := g0.trans g2
  replace B6 := B6.gr g2
  clear g2
  go_wp2_with fail
  refine (A2.out _).mono ?_
  rintro e w2 ⟨rfl, g2⟩
  replace g0 := g0.trans g2
  replace B6 := B6.gr g2
  clear g2
  go_wp2_with fail
  refine (A3.out _ (hr'.gr g0)).mono ?_
  rintro e w3 ⟨rfl, g2⟩
  replace g0 := g0.trans g2
  replace B6 := B6.gr g2
  clear g2
  go_wp2_with fail
  refine (A4.out _).mono ?_
  rintro e wz ⟨rfl, g2⟩
  replace g0 := g0.trans g2
  replace B6 := B6.gr g2
  clear g2
  have X1 : Box2 ((wz.alloc (.cells #[.int .i64 N, .int .i64 D] 37)).alloc (.cells #[.int .i64 M, .int .i64 E] 37)) wz.heap.size N D := (Box2.new rfl).gr ((Gr.refl _).alloc _)
  have X2 : Box2 ((wz.alloc (.cells #[.int .i64 N, .int .i64 D] 37)).alloc (.cells #[.int .i64 M, .int .i64 E] 37)) (wz.heap.size + 1) M E := Box2.new (by simp)
  have ga := ((Gr.refl wz).alloc (.cells #[.int .i64 N, .int .i64 D] 37)).alloc (.cells #[.int .i64 M, .int .i64 E] 37)
  replace g0 := g0.trans ga
  replace B6 := B6.gr ga
  clear ga
  obtain ⟨s0, s1, -, -⟩ := X1
  obtain ⟨s2, s3, -, -⟩ := X2
  go_wp2_with fail
  all_goals
    first
      | (have h0 : -(N * E - M * D) ≤ N * E - M * D := by assumption
         refine (R1.out h0 _).mono ?_)
      | (have h0 : N * E - M * D < -(N * E - M * D) := by assumption
         refine (R2.out h0 _).mono ?_)
    rintro e w6 ⟨rfl, g2⟩
    replace g0 := g0.trans g2
    replace B6 := B6.gr g2
    clear g2 s0 s1 s2 s3
    obtain ⟨t0, t1, f0, f1⟩ := id B6
    have hz : w.heap.size < w6.heap.size := World.block_lt_of_cell? w6 _ t0
    obtain ⟨y0, y1, -, -⟩ := B6.put (x' := P) (y' := Q)
    go_wp2_with fail
    clear t0 t1
    refine bodyPost_ret (v := .agg #[.int .i64 P, .int .i64 Q]) (by simp [results, Tryz.results45, go_sem, y0, y1]) rfl ⟨rfl, ?_⟩
    exact (g0.setAt (by omega) _).setAt (by omega) _

end Go.Proofs.YtdlbgelidcfmiaaGreatDoor
