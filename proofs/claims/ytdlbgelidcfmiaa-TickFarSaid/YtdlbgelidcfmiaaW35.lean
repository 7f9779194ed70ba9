/- Contracts of chapter 1: how much two times differ, by the law; and the plain facts of TickFar. -/
import Derived.Test.YtdlbgelidcfmiaaW34
namespace Go.Firn
theorem Box2.put1 {w : World} {b : Nat} {x y y' : Int} (h : Box2 w b x y) : Box2 (w.setCell ⟨b, 1, none⟩ (.int .i64 y')) b x y' := by
  obtain ⟨h0, h1, h2, h3⟩ := h
  refine ⟨?_, World.cell?_setCell_same _ _ _ h1, by simpa using h2, by simpa using h3⟩
  rw [World.cell?_setCell_other _ _ _ _ (by simp)]
  exact h0
end Go.Firn
namespace Go.Proofs.Ytdlbgelidcfmiaa
open Go.RowKit Go.Firn

set_option maxRecDepth 100000 in
set_option maxHeartbeats 300000 in
theorem lawapart_any (n n' : Nat) (L T L' T' : Nat → Int) (x : Int) (w : World) (hv : vK n L T = true) (hv' : vK n' L' T' = true) (hx : -200000 ≤ x ∧ x ≤ 200000) :
    Calls Try.prog 55 #[.agg #[.int .i64 (AN n L T x), .int .i64 (AD n L T x)], .agg #[.int .i64 (AN n' L' T' x), .int .i64 (AD n' L' T' x)]] w (RetR (apN n L T n' L' T' x) (apD n L T n' L' T' x) w) := by
  have b1 := AN_bd (x := x) hv hx
  have b2 := AD_bd x hv
  have b3 := AN_bd (x := x) hv' hx
  have b4 := AD_bd x hv'
  have HN := Lib.hid (show rN (max (AN n L T x * AD n' L' T' x - AN n' L' T' x * AD n L T x) (-(AN n L T x * AD n' L' T' x - AN n' L' T' x * AD n L T x))) (AD n L T x * AD n' L' T' x) = apN n L T n' L' T' x from rfl)
  have HD := Lib.hid (show rD (max (AN n L T x * AD n' L' T' x - AN n' L' T' x * AD n L T x) (-(AN n L T x * AD n' L' T' x - AN n' L' T' x * AD n L T x))) (AD n L T x * AD n' L' T' x) = apD n L T n' L' T' x from rfl)
  clear hv hv'
  generalize apN n L T n' L' T' x = P at *
  generalize apD n L T n' L' T' x = Q at *
  generalize AN n L T x = N at *
  generalize AD n L T x = D at *
  generalize AN n' L' T' x = M at *
  generalize AD n' L' T' x = E at *
  have m1 := mul_bd (a := N) (b := E) (A := 40000000000) (B := 100000) (by omega) (by omega) (by omega) (by omega)
  have m2 := mul_bd (a := M) (b := D) (A := 40000000000) (B := 100000) (by omega) (by omega) (by omega) (by omega)
  have m3 := mul_bd (a := D) (b := E) (A := 100000) (B := 100000) (by omega) (by omega) (by omega) (by omega)
  have m8 : 0 < D * E := Int.mul_pos (by omega) (by omega)
  have q1 : IntKind.i64.wrap (N * E) = N * E := IntWalk.i64_in _ (by omega)
  have q2 : IntKind.i64.wrap (M * D) = M * D := IntWalk.i64_in _ (by omega)
  have q3 : IntKind.i64.wrap (N * E - M * D) = N * E - M * D := IntWalk.i64_in _ (by omega)
  have q4 : IntKind.i64.wrap (D * E) = D * E := IntWalk.i64_in _ (by omega)
  have q5 : IntKind.i64.wrap (-(N * E - M * D)) = -(N * E - M * D) := IntWalk.i64_in _ (by omega)
  have q6 : 1 ≤ D * E := by omega
  have R := Lib.hid (fun w1 => show Calls Try.prog 43 #[.int .i64 (max (N * E - M * D) (-(N * E - M * D))), .int .i64 (max (D * E) 1)] w1 (RetR P Q w1) by
    have := Ratio_any (max (N * E - M * D) (-(N * E - M * D))) (D * E) w1 (Sz.of (by omega) (by omega)) (Sz.of (by omega) (by omega)) m8
    rw [HN.out, HD.out] at this
    rwa [Int.max_eq_left q6])
  clear q6 HN HD b1 b2 b3 b4 m1 m2 m3 m8
  have ga := (((Gr.refl w).alloc (.cells #[.int .i64 N, .int .i64 D] 37)).alloc (.cells #[.int .i64 M, .int .i64 E] 37)).alloc (.cells #[.int .i64 0, .int .i64 0] 37)
  have X1 : Box2 (((w.alloc (.cells #[.int .i64 N, .int .i64 D] 37)).alloc (.cells #[.int .i64 M, .int .i64 E] 37)).alloc (.cells #[.int .i64 0, .int .i64 0] 37)) w.heap.size N D := ((Box2.new rfl).gr ((Gr.refl _).alloc _)).gr ((Gr.refl _).alloc _)
  have X2 : Box2 (((w.alloc (.cells #[.int .i64 N, .int .i64 D] 37)).alloc (.cells #[.int .i64 M, .int .i64 E] 37)).alloc (.cells #[.int .i64 0, .int .i64 0] 37)) (w.heap.size + 1) M E := (Box2.new (by simp)).gr ((Gr.refl _).alloc _)
  have B6 : Box2 (((w.alloc (.cells #[.int .i64 N, .int .i64 D] 37)).alloc (.cells #[.int .i64 M, .int .i64 E] 37)).alloc (.cells #[.int .i64 0, .int .i64 0] 37)) (w.heap.size + 1 + 1) 0 0 := Box2.new (by simp)
  go_enter Try.func55, Try.ntmps55
  obtain ⟨s0, s1, -, -⟩ := X1
  obtain ⟨s2, s3, -, -⟩ := X2
  go_wp2_with fail
  refine (R.out _).mono ?_
  rintro e w6 ⟨rfl, g2⟩
  have g0 := ga.trans g2
  replace B6 := B6.gr g2
  clear g2 s0 s1 s2 s3
  obtain ⟨t0, t1, f0, f1⟩ := id B6
  have hz : w.heap.size + 1 + 1 < w6.heap.size := World.block_lt_of_cell? w6 _ t0
  obtain ⟨y0, y1, -, -⟩ := B6.put (x' := P) (y' := Q)
  go_wp2_with fail
  clear t0 t1
  refine bodyPost_ret (v := .agg #[.int .i64 P, .int .i64 Q]) (by simp [results, Try.results55, go_sem, y0, y1]) rfl ⟨rfl, ?_⟩
  exact (g0.setAt (by omega) _).setAt (by omega) _

/-- Both ways round it is the same. -/
theorem ap_swap (n : Nat) (L T : Nat → Int) (n' : Nat) (L' T' : Nat → Int) : apN n' L' T' n L T = apN n L T n' L' T' ∧ apD n' L' T' n L T = apD n L T n' L' T' := by
  have e (x : Int) : max (apM n' L' T' n L T x) (-apM n' L' T' n L T x) = max (apM n L T n' L' T' x) (-apM n L T n' L' T' x) := by
    have : apM n' L' T' n L T x = -apM n L T n' L' T' x := by unfold apM; omega
    omega
  have e2 (x : Int) : apE n' L' T' n L T x = apE n L T n' L' T' x := by unfold apE; exact Int.mul_comm _ _
  constructor
  · funext x; unfold apN; rw [e, e2]
  · funext x; unfold apD; rw [e, e2]

/-- What TickFar calls, of two valid clocks. -/
theorem far_facts {n n' : Nat} {L T L' T' : Nat → Int} (hv : vK n L T = true) (hv' : vK n' L' T' = true) (a a' : Option Addr) (c c' : Nat) {x y : Int} (hx : 0 ≤ x) (hxy : x ≤ y) (hy : y ≤ 100000) :
    ∃ (m p q : Int) (b : Bool), (x ≤ m ∧ m ≤ y) ∧ apN n L T n' L' T' m = p ∧ apD n L T n' L' T' m = q ∧ (b = true → p = 0 ∧ m = x) ∧ (∀ z, x ≤ z → z ≤ y → ¬ p * apD n L T n' L' T' z < apN n L T n' L' T' z * q) ∧
      (∀ w, RdM w a n L T → RdM w a' n' L' T' → Calls Try.prog 50 #[.slice a n c, .slice a' n' c', .int .i64 x, .int .i64 y] w (RetIRE m p q 0 w)) ∧
      (∀ w, RdM w a n L T → RdM w a' n' L' T' → Calls Try.prog 50 #[.slice a' n' c', .slice a n c, .int .i64 x, .int .i64 y] w (RetIRE m p q 0 w)) ∧
      (∀ w, RdM w a n L T → RdM w a' n' L' T' → Calls Try.prog 52 #[.slice a n c, .slice a' n' c'] w (RetBE b 0 w)) := by
  have hq := fun y => apD_pos hv hv' y
  have hp := fun y => apN_nonneg (n := n) (L := L) (T := T) (n' := n') (L' := L') (T' := T') y
  obtain ⟨m, hm⟩ := IsMx.exists hq x (y - x).toNat
  rw [show x + ((y - x).toNat : Int) + 1 = y + 1 by omega] at hm
  obtain ⟨m0, hm0⟩ := IsMx.exists hq 0 100000
  rw [show (0 : Int) + ((100000 : Nat) : Int) + 1 = 100000 + 1 by rfl] at hm0
  refine ⟨m, _, _, decide (apN n L T n' L' T' m0 = 0), ⟨hm.1.1, by have := hm.1.2; omega⟩, rfl, rfl, fun hb => ?_, fun z h1 h2 => hm.2.1 z ⟨h1, by omega⟩, fun w h h' => ?_, fun w h h' => ?_, fun w h h' => ?_⟩
  · have h0 : apN n L T n' L' T' m0 = 0 := by simpa using hb
    have Z := all_zero hp hq hm0 h0
    have hm1 := hm.1
    have zx := Z x ⟨hx, by omega⟩
    have zm := Z m ⟨by omega, by omega⟩
    refine ⟨zm, ?_⟩
    rcases Int.lt_or_eq_of_le hm1.1 with h | h
    · have := hm.2.2 x ⟨by omega, by omega⟩ h
      unfold ltR at this
      rw [zx, zm] at this
      omega
    · exact h.symm
  · refine (Apart_ok a a' n c n' c' L T L' T' x y w h h' hv hv' ⟨hx, by omega⟩ ⟨by omega, hy⟩ hxy).mono ?_
    rintro e w' ⟨k, hk, hret⟩
    obtain rfl := place_eq hv hv' hm hk
    exact hret
  · refine (Apart_ok a' a n' c' n c L' T' L T x y w h' h hv' hv ⟨hx, by omega⟩ ⟨by omega, hy⟩ hxy).mono ?_
    rintro e w' ⟨k, hk, hret⟩
    obtain rfl := place_eq hv' hv (a := m) (by rw [(ap_swap n L T n' L' T').1, (ap_swap n L T n' L' T').2]; exact hm) hk
    rw [(ap_swap n L T n' L' T').1, (ap_swap n L T n' L' T').2] at hret
    exact hret
  · refine (Same_ok a a' n c n' c' L T L' T' w h h' hv hv').mono ?_
    rintro e w' ⟨k, hk, hret⟩
    obtain rfl := place_eq hv hv' hm0 hk
    exact hret

end Go.Proofs.Ytdlbgelidcfmiaa
