/- What TopTick's calls answer, together. -/
import Derived.Test.YtdlbgelidcfmiaaGreatDoorPT
import Derived.Test.YtdlbgelidcfmiaaGreatDoorP3
import Derived.Test.YtdlbgelidcfmiaaGreatDoorTV
namespace Go.Proofs.YtdlbgelidcfmiaaGreatDoor
open Go.RowKit Go.Firn

/-- The counts of readings, and back. -/
theorem top_counts {b : Int} {n : Nat} {f : Nat → Int} (hv : vR b n f = true) :
    (∀ a c w, RdI w a n f → Calls Tryz.prog 6 #[.int .i64 b, .slice a n c] w (RetIs n (fun k => cst (pw b) f (k + 1)) 0 w)) ∧
    (∀ a c w, RdI w a n (fun k => cst (pw b) f (k + 1)) → Calls Tryz.prog 8 #[.int .i64 b, .slice a n c] w (RetIs n f 0 w)) ∧
    (∀ a c a' c' (g : Nat → Int) w, RdI w a n g → RdI w a' n g → Calls Tryz.prog 9 #[.slice a n c, .slice a' n c'] w (RetB true w)) := by
  obtain ⟨b1, b2, n1, n2, hf⟩ := vR_true.1 hv
  have p0 := pw_pos b
  have p1 := pw_le b2
  have Vc : vC n (fun k => cst (pw b) f (k + 1)) = true := vC_true.2 ⟨n1, n2, fun i hi => by
    have h1 := cst_bd p0 hf (i + 1) (by omega)
    have h2 : ((i + 1 : Nat) : Int) * pw b ≤ 60 * pw b := Int.mul_le_mul_of_nonneg_right (by omega) (by omega)
    exact ⟨h1.1, by omega⟩, fun i hi => (cst_step p0 hf (by omega)).1⟩
  have Hb := isBits_true.2 ⟨b1, b2⟩
  refine ⟨fun a c w h => ?_, fun a c w h => ?_, fun a c a' c' g w h h' => ?_⟩
  · exact Counts_ok b a n c f w (by omega) h hv
  · refine (Readings_ok b a n c _ w (by omega) h Hb Vc).mono ?_
    rintro e w' ⟨a2, c2, rfl, h1, h2, h3, h4⟩
    exact ⟨a2, c2, rfl, h1, h2, h3.congr fun k hk => cst_emod p0 hf hk, h4⟩
  · have := SameInts_any a a' n c n c' g g w (by omega) (by omega) h h'
    rwa [eqB_true.2 ⟨rfl, fun _ _ => rfl⟩] at this

/-- A clock, there and back. -/
theorem top_clock {n : Nat} {L T : Nat → Int} (hv : vK n L T = true) {x : Int} (hx : 0 ≤ x ∧ x ≤ 100000) :
    (∀ a c w, RdM w a n L T → Calls Tryz.prog 11 #[.slice a n c] w (RetMf (kM n L T) (kL n L T) (kT n L T) 0 w)) ∧
    (∀ a c w, RdM w a n L T → Calls Tryz.prog 12 #[.slice a n c] w (RetMf n T L 0 w)) ∧
    (∀ a c w, RdM w a n L T → Calls Tryz.prog 14 #[.slice a n c, .int .i64 x] w (RetRE (AN n L T x) (AD n L T x) 0 w)) ∧
    (∀ a c w, RdM w a (kM n L T) (kL n L T) (kT n L T) → Calls Tryz.prog 14 #[.slice a (kM n L T) c, .int .i64 x] w (RetRE (AN n L T x) (AD n L T x) 0 w)) ∧
    (∀ a c w, RdM w a (kM n L T) (kL n L T) (kT n L T) → Calls Tryz.prog 16 #[.slice a (kM n L T) c, .agg #[.int .i64 (AN n L T x), .int .i64 (AD n L T x)]] w (RetRE x 1 0 w)) ∧
    (∀ a c w, RdM w a n T L → Calls Tryz.prog 16 #[.slice a n c, .agg #[.int .i64 x, .int .i64 1]] w (RetRE (AN n L T x) (AD n L T x) 0 w)) := by
  have hn := (vK_true.1 hv).2.1
  have hkv := vK_kept hv
  have hkn := kM_le n L T
  have bx : btw 0 x 100000 = true := btw_true.2 hx
  obtain ⟨k1, k2⟩ := kept_time hv x
  have hv' : vK n T L = true := by rw [vK_swap]; exact hv
  refine ⟨fun a c w h => ?_, fun a c w h => ?_, fun a c w h => ?_, fun a c w h => ?_, fun a c w h => ?_, fun a c w h => ?_⟩
  · have := Straight_any a n c L T w (by omega) h
    rw [hv, stL_kept] at this
    exact this.mono fun _ _ h => h.mf
  · have := Inverse_any a n c L T w (by omega) h
    rw [hv] at this
    exact this.mono fun _ _ h => h.mf
  · have := At_any a n c L T x w (by omega) h
    rw [hv, bx] at this
    exact this
  · have := At_any a (kM n L T) c (kL n L T) (kT n L T) x w (by omega) h
    rw [hkv, bx, k1, k2] at this
    exact this
  · have bk := bkR_at (x := x) hv (by omega)
    have bo := back_of_at (x := x) hkv
    rw [k1, k2] at bo
    have := Back_any a (kM n L T) c (kL n L T) (kT n L T) (AN n L T x) (AD n L T x) w (by omega) h
    rw [hkv, bk, bo.1, bo.2] at this
    exact this
  · have bk : bkR x 1 = true := by rw [bkR_true]; omega
    have ai := at_inverse n L T x
    have := Back_any a n c T L x 1 w (by omega) h
    rw [hv', bk, ai.1, ai.2] at this
    exact this

/-- Two clocks: how far they are apart in [x, y], and whether they are the same. -/
theorem top_two {n n' : Nat} {L T L' T' : Nat → Int} (hv : vK n L T = true) (hv' : vK n' L' T' = true) {x y : Int} (hx : 0 ≤ x) (hxy : x ≤ y) (hy : y ≤ 100000) :
    ∃ (m p q : Int) (b : Bool), (b = true → p = 0) ∧ (p = 0 → AN n L T x = AN n' L' T' x ∧ AD n L T x = AD n' L' T' x) ∧
      (∀ a a' c c' w, RdM w a n L T → RdM w a' n' L' T' → Calls Tryz.prog 19 #[.slice a n c, .slice a' n' c', .int .i64 x, .int .i64 y] w (RetIRE m p q 0 w)) ∧
      (∀ a a' c c' w, RdM w a n L T → RdM w a' n' L' T' → Calls Tryz.prog 18 #[.slice a n c, .slice a' n' c'] w (RetBE b 0 w)) ∧
      (∀ a a' c c' w, RdM w a n L T → RdM w a' n' L' T' → Calls Tryz.prog 18 #[.slice a' n' c', .slice a n c] w (RetBE b 0 w)) := by
  have hq := fun y => apD_pos hv hv' y
  have hp := fun y => apN_nonneg (n := n) (L := L) (T := T) (n' := n') (L' := L') (T' := T') y
  obtain ⟨m, hm⟩ := IsMx.exists hq x (y - x).toNat
  rw [show x + ((y - x).toNat : Int) + 1 = y + 1 by omega] at hm
  obtain ⟨m0, hm0⟩ := IsMx.exists hq 0 100000
  rw [show (0 : Int) + ((100000 : Nat) : Int) + 1 = 100000 + 1 by rfl] at hm0
  refine ⟨m, apN n L T n' L' T' m, apD n L T n' L' T' m, decide (apN n L T n' L' T' m0 = 0), fun hb => ?_, fun h0 => ?_, fun a a' c c' w h h' => ?_, fun a a' c c' w h h' => ?_, fun a a' c c' w h h' => ?_⟩
  · have h0 : apN n L T n' L' T' m0 = 0 := by simpa using hb
    have Z := all_zero hp hq hm0 h0
    have := hm.1
    exact Z m ⟨by omega, by omega⟩
  · exact (eqP_iff hv hv' x).2 (all_zero hp hq hm h0 x ⟨by omega, by omega⟩)
  · refine (Apart_ok a a' n c n' c' L T L' T' x y w h h' hv hv' ⟨hx, by omega⟩ ⟨by omega, hy⟩ hxy).mono ?_
    rintro e w' ⟨k, hk, hret⟩
    obtain rfl := place_eq hv hv' hm hk
    exact hret
  · refine (Same_ok a a' n c n' c' L T L' T' w h h' hv hv').mono ?_
    rintro e w' ⟨k, hk, hret⟩
    obtain rfl := place_eq hv hv' hm0 hk
    exact hret
  · refine (Same_ok a' a n' c' n c L' T' L T w h' h hv' hv).mono ?_
    rintro e w' ⟨k, hk, hret⟩
    obtain rfl := place_eq hv' hv (a := m0) (by rw [(ap_swap n L T n' L' T').1, (ap_swap n L T n' L' T').2]; exact hm0) hk
    rw [(ap_swap n L T n' L' T').1] at hret
    exact hret
/-- A clock and its straight one are nowhere apart. -/
theorem top_straight {n : Nat} {L T : Nat → Int} (hv : vK n L T = true) {x y : Int} (hx : 0 ≤ x) (hxy : x ≤ y) (hy : y ≤ 100000) :
    ∃ m q : Int, ∀ a a' c c' w, RdM w a n L T → RdM w a' (kM n L T) (kL n L T) (kT n L T) → Calls Tryz.prog 19 #[.slice a n c, .slice a' (kM n L T) c', .int .i64 x, .int .i64 y] w (RetIRE m 0 q 0 w) := by
  have hkv := vK_kept hv
  have hq := fun y => apD_pos hv hkv y
  obtain ⟨m, hm⟩ := IsMx.exists hq x (y - x).toNat
  rw [show x + ((y - x).toNat : Int) + 1 = y + 1 by omega] at hm
  have h0 := (eqP_iff hv hkv m).1 ⟨(kept_time hv m).1.symm, (kept_time hv m).2.symm⟩
  refine ⟨m, apD n L T (kM n L T) (kL n L T) (kT n L T) m, fun a a' c c' w h h' => ?_⟩
  refine (Apart_ok a a' n c (kM n L T) c' L T (kL n L T) (kT n L T) x y w h h' hv hkv ⟨hx, by omega⟩ ⟨by omega, hy⟩ hxy).mono ?_
  rintro e w' ⟨k, hk, hret⟩
  obtain rfl := place_eq hv hkv hm hk
  rw [h0] at hret
  exact hret
end Go.Proofs.YtdlbgelidcfmiaaGreatDoor
