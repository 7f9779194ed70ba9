/- Contracts of chapter 1: whether two lines are one. Contracts of chapter 1: what TickStraights asks, and what it calls. -/
import Derived.Test.YtdlbgelidcfmiaaPT
import Derived.Test.YtdlbgelidcfmiaaRhe
import Derived.Test.YtdlbgelidcfmiaaWX
namespace Go.Proofs.Ytdlbgelidcfmiaa
open Go.RowKit Go.Firn

def slB (l0 t0 l1 t1 l2 t2 l3 t3 : Int) : Bool := decide ((t2 - t0) * (l1 - l0) = (l2 - l0) * (t1 - t0)) && decide ((t3 - t0) * (l1 - l0) = (l3 - l0) * (t1 - t0))

set_option maxRecDepth 100000 in
set_option maxHeartbeats 2000000 in
theorem sameLine_any (l0 t0 l1 t1 l2 t2 l3 t3 : Int) (w : World) (a0 : 0 ≤ l0 ∧ l0 ≤ 100000) (a1 : 0 ≤ t0 ∧ t0 ≤ 100000) (a2 : 0 ≤ l1 ∧ l1 ≤ 100000) (a3 : 0 ≤ t1 ∧ t1 ≤ 100000) (a4 : 0 ≤ l2 ∧ l2 ≤ 100000) (a5 : 0 ≤ t2 ∧ t2 ≤ 100000) (a6 : 0 ≤ l3 ∧ l3 ≤ 100000) (a7 : 0 ≤ t3 ∧ t3 ≤ 100000) :
    Calls Try.prog 56 #[.agg #[.int .i64 l0, .int .i64 t0], .agg #[.int .i64 l1, .int .i64 t1], .agg #[.int .i64 l2, .int .i64 t2], .agg #[.int .i64 l3, .int .i64 t3]] w (RetB (slB l0 t0 l1 t1 l2 t2 l3 t3) w) := by
  have m1 := mul_bd (a := t2 - t0) (b := l1 - l0) (A := 100000) (B := 100000) (by omega) (by omega) (by omega) (by omega)
  have m2 := mul_bd (a := l2 - l0) (b := t1 - t0) (A := 100000) (B := 100000) (by omega) (by omega) (by omega) (by omega)
  have m3 := mul_bd (a := t3 - t0) (b := l1 - l0) (A := 100000) (B := 100000) (by omega) (by omega) (by omega) (by omega)
  have m4 := mul_bd (a := l3 - l0) (b := t1 - t0) (A := 100000) (B := 100000) (by omega) (by omega) (by omega) (by omega)
  have q1 : IntKind.i64.wrap (l1 - l0) = l1 - l0 := IntWalk.i64_in _ (by omega)
  have q2 : IntKind.i64.wrap (t1 - t0) = t1 - t0 := IntWalk.i64_in _ (by omega)
  have q3 : IntKind.i64.wrap (t2 - t0) = t2 - t0 := IntWalk.i64_in _ (by omega)
  have q4 : IntKind.i64.wrap (l2 - l0) = l2 - l0 := IntWalk.i64_in _ (by omega)
  have q5 : IntKind.i64.wrap (t3 - t0) = t3 - t0 := IntWalk.i64_in _ (by omega)
  have q6 : IntKind.i64.wrap (l3 - l0) = l3 - l0 := IntWalk.i64_in _ (by omega)
  have q7 : IntKind.i64.wrap ((t2 - t0) * (l1 - l0)) = (t2 - t0) * (l1 - l0) := IntWalk.i64_in _ (by omega)
  have q8 : IntKind.i64.wrap ((l2 - l0) * (t1 - t0)) = (l2 - l0) * (t1 - t0) := IntWalk.i64_in _ (by omega)
  have q9 : IntKind.i64.wrap ((t3 - t0) * (l1 - l0)) = (t3 - t0) * (l1 - l0) := IntWalk.i64_in _ (by omega)
  have q10 : IntKind.i64.wrap ((l3 - l0) * (t1 - t0)) = (l3 - l0) * (t1 - t0) := IntWalk.i64_in _ (by omega)
  clear m1 m2 m3 m4 a0 a1 a2 a3 a4 a5 a6 a7
  have hg : Gr w ((((w.alloc (.cells #[.int .i64 l0, .int .i64 t0] 64)).alloc (.cells #[.int .i64 l1, .int .i64 t1] 64)).alloc (.cells #[.int .i64 l2, .int .i64 t2] 64)).alloc (.cells #[.int .i64 l3, .int .i64 t3] 64)) := ((((Gr.refl w).alloc _).alloc _).alloc _).alloc _
  have X0 : Box2 ((((w.alloc (.cells #[.int .i64 l0, .int .i64 t0] 64)).alloc (.cells #[.int .i64 l1, .int .i64 t1] 64)).alloc (.cells #[.int .i64 l2, .int .i64 t2] 64)).alloc (.cells #[.int .i64 l3, .int .i64 t3] 64)) w.heap.size l0 t0 := (((Box2.new rfl).gr ((Gr.refl _).alloc _)).gr ((Gr.refl _).alloc _)).gr ((Gr.refl _).alloc _)
  have X1 : Box2 ((((w.alloc (.cells #[.int .i64 l0, .int .i64 t0] 64)).alloc (.cells #[.int .i64 l1, .int .i64 t1] 64)).alloc (.cells #[.int .i64 l2, .int .i64 t2] 64)).alloc (.cells #[.int .i64 l3, .int .i64 t3] 64)) (w.heap.size + 1) l1 t1 := ((Box2.new (by simp)).gr ((Gr.refl _).alloc _)).gr ((Gr.refl _).alloc _)
  have X2 : Box2 ((((w.alloc (.cells #[.int .i64 l0, .int .i64 t0] 64)).alloc (.cells #[.int .i64 l1, .int .i64 t1] 64)).alloc (.cells #[.int .i64 l2, .int .i64 t2] 64)).alloc (.cells #[.int .i64 l3, .int .i64 t3] 64)) (w.heap.size + 1 + 1) l2 t2 := (Box2.new (by simp)).gr ((Gr.refl _).alloc _)
  have X3 : Box2 ((((w.alloc (.cells #[.int .i64 l0, .int .i64 t0] 64)).alloc (.cells #[.int .i64 l1, .int .i64 t1] 64)).alloc (.cells #[.int .i64 l2, .int .i64 t2] 64)).alloc (.cells #[.int .i64 l3, .int .i64 t3] 64)) (w.heap.size + 1 + 1 + 1) l3 t3 := Box2.new (by simp)
  obtain ⟨s0, s1, -, -⟩ := X0
  obtain ⟨s2, s3, -, -⟩ := X1
  obtain ⟨s4, s5, -, -⟩ := X2
  obtain ⟨s6, s7, -, -⟩ := X3
  unfold slB
  go_enter Try.func56, Try.ntmps56
  go_upto_region 1 with fail
  generalize hW : (((w.alloc (.cells #[.int .i64 l0, .int .i64 t0] 64)).alloc (.cells #[.int .i64 l1, .int .i64 t1] 64)).alloc (.cells #[.int .i64 l2, .int .i64 t2] 64)).alloc (.cells #[.int .i64 l3, .int .i64 t3] 64) = W1 at *
  clear hW
  go_region
  all_goals go_wp2_with fail
  all_goals go_ret
  all_goals exact ⟨by first | (simp [*]; done) | (simp [*]; rfl), hg.drew⟩
end Go.Proofs.Ytdlbgelidcfmiaa

namespace Go.Proofs.Ytdlbgelidcfmiaa
open Go.RowKit Go.Firn

theorem eq_same (m : Nat) (f g f' g' : Nat → Int) (he : ∀ i, i < m → f i = f' i ∧ g i = g' i) (a a' : Option Addr) (c c' : Nat) (w : World) (hm : m ≤ 9223372036854775807) (hr : RdM w a m f g) (hr' : RdM w a' m f' g') :
    Calls Try.prog 40 #[.slice a m c, .slice a' m c'] w (RetDB true w) := by
  have h := Equal_q a a' m c m c' f g f' g' w hm hm hr hr'
  rwa [show eqM m m f g f' g' = true from eqM_true.2 ⟨rfl, he⟩] at h

/-- What the law computes of the kept marks. -/
theorem like_iff {m m' : Nat} {f g f' g' : Nat → Int} (hm : 2 ≤ m) (hm' : 2 ≤ m') : Like m f g m' f' g' ↔ eqM (m - 2) (m' - 2) (fun i => f (i + 1)) (fun i => g (i + 1)) (fun i => f' (i + 1)) (fun i => g' (i + 1)) = true ∧
    slB (f 0) (g 0) (f 1) (g 1) (f' 0) (g' 0) (f' 1) (g' 1) = true ∧ slB (f (m - 2)) (g (m - 2)) (f (m - 1)) (g (m - 1)) (f' (m' - 2)) (g' (m' - 2)) (f' (m' - 1)) (g' (m' - 1)) = true := by
  have e : ∀ i j, slB (f i) (g i) (f (i + 1)) (g (i + 1)) (f' j) (g' j) (f' (j + 1)) (g' (j + 1)) = true ↔ sLn f g i f' g' j := fun i j => by
    unfold slB sLn aD
    rw [Bool.and_eq_true, decide_eq_true_eq, decide_eq_true_eq]
  have e0 := e 0 0
  have e1 := e (m - 2) (m' - 2)
  rw [show m - 2 + 1 = m - 1 by omega, show m' - 2 + 1 = m' - 1 by omega] at e1
  rw [e0, e1, eqM_true]
  constructor
  · rintro ⟨rfl, h1, h2, h3⟩
    exact ⟨⟨rfl, fun i hi => ⟨(h1 (i + 1) (by omega) (by omega)).1.symm, (h1 (i + 1) (by omega) (by omega)).2.symm⟩⟩, h2, h3⟩
  · rintro ⟨⟨h0, h1⟩, h2, h3⟩
    refine ⟨by omega, fun t a b => ?_, h2, h3⟩
    have := h1 (t - 1) (by omega)
    simp only [show t - 1 + 1 = t by omega] at this
    exact ⟨this.1.symm, this.2.symm⟩
theorem RdM.tail {w : World} {b o m : Nat} {f g : Nat → Int} (h : ∀ i, i < m → w.cell? ⟨b, o + i * 2, none⟩ = some (.int .i64 (f i)) ∧ w.cell? ⟨b, o + i * 2 + 1, none⟩ = some (.int .i64 (g i))) (o' : Nat) (ho : o' = o + 2) : RdM w (some ⟨b, o', none⟩) (m - 2) (fun i => f (i + 1)) (fun i => g (i + 1)) := by
  subst ho
  refine .inr ⟨b, o + 2, rfl, fun i hi => ?_⟩
  have := h (i + 1) (by omega)
  rwa [show o + (i + 1) * 2 = o + 2 + i * 2 by omega] at this

/-- The contracts that the law calls. -/
theorem calls_of {n n' : Nat} {L T L' T' : Nat → Int} (hv : vK n L T = true) (hv' : vK n' L' T' = true) (a a' : Option Addr) (c c' : Nat) :
    (∀ w, RdM w a n L T → Calls Try.prog 46 #[.slice a n c] w (RetMf (kM n L T) (kL n L T) (kT n L T) 0 w)) ∧
    (∀ w, RdM w a n L T → RdM w a' n' L' T' → ∀ b : Bool, (b = true ↔ Like (kM n L T) (kL n L T) (kT n L T) (kM n' L' T') (kL n' L' T') (kT n' L' T')) → Calls Try.prog 52 #[.slice a n c, .slice a' n' c'] w (RetBE b 0 w)) := by
  have hn := (vK_true.1 hv).2.1
  refine ⟨fun w h => ?_, fun w h h' b hb => ?_⟩
  · have := Straight_any a n c L T w (by omega) h
    rw [hv, stL_kept] at this
    exact this.mono fun _ _ h => h.mf
  · refine (Same_ok a a' n c n' c' L T L' T' w h h' hv hv').mono ?_
    rintro e w' ⟨k, hk, hret⟩
    have e1 : decide (apN n L T n' L' T' k = 0) = b := by
      rw [Bool.eq_iff_iff, decide_eq_true_eq, hb, same_times hv hv' hk]
      exact same_kept hv hv'
    rwa [e1] at hret
theorem calls_kept {n : Nat} {L T : Nat → Int} (hv : vK n L T = true) (a : Option Addr) (c : Nat) :
    (∀ a2 c2 w, RdM w a2 (kM n L T) (kL n L T) (kT n L T) → Calls Try.prog 46 #[.slice a2 (kM n L T) c2] w (RetMf (kM n L T) (kL n L T) (kT n L T) 0 w)) ∧
    (∀ a2 c2 w, RdM w a n L T → RdM w a2 (kM n L T) (kL n L T) (kT n L T) → Calls Try.prog 52 #[.slice a n c, .slice a2 (kM n L T) c2] w (RetBE true 0 w)) := by
  have hn := (vK_true.1 hv).2.1
  have hle := kM_le n L T
  refine ⟨fun a2 c2 w h => ?_, fun a2 c2 w h h' => ?_⟩
  · have := Straight_any a2 (kM n L T) c2 (kL n L T) (kT n L T) w (by omega) h
    rw [vK_kept hv, kn_stL (vK_kept hv) (kept_kn hv)] at this
    exact this.mono fun _ _ h => h.mf
  · refine (Same_ok a a2 n c (kM n L T) c2 L T (kL n L T) (kT n L T) w h h' hv (vK_kept hv)).mono ?_
    rintro e w' ⟨k, hk, hret⟩
    have e1 : decide (apN n L T (kM n L T) (kL n L T) (kT n L T) k = 0) = true := by
      rw [decide_eq_true_eq, same_times hv (vK_kept hv) hk]
      exact fun y _ _ => ⟨(kept_time hv y).1.symm, (kept_time hv y).2.symm⟩
    rwa [e1] at hret

end Go.Proofs.Ytdlbgelidcfmiaa
