/- Contracts of chapter 7: the gain of a cut at a price, and which ratios are prices. -/
import Derived.Test.YtohcnicadbpbbaaGreatDoorMH
import Derived.Test.YtohcnicadbpbbaaGreatDoorMB
import Derived.Test.YtohcnicadbpbbaaGreatDoorXT
namespace Go.Proofs.YtohcnicadbpbbaaGreatDoor
open Go.RowKit Go.Firn

/-- A ratio that is a price. -/
def prB (P D : Int) : Bool := btw 1 D 10000000 && btw 0 P 1000000000
def Prc (P D : Int) : Prop := (1 ≤ D ∧ D ≤ 10000000) ∧ 0 ≤ P ∧ P ≤ 1000000000
theorem prB_iff {P D : Int} : prB P D = true ↔ Prc P D := by unfold prB Prc; rw [Bool.and_eq_true, btw_true, btw_true]
/-- The gain of a cut. -/
def gnV (f g : Nat → Int) (n : Nat) (P D : Int) (h : Nat → Int) (q : Nat) : Int := kp g h q * D * sm f n - P * kp f h q * sm g n
/-- The gain of a set. -/
def gS (f g : Nat → Int) (n : Nat) (P D : Int) (s : Nat) : Int := kS g s n * D * sm f n - P * kS f s n * sm g n
theorem gnV_onL (f g : Nat → Int) (n : Nat) (P D : Int) (s : Nat) : gnV f g n P D (nf (cS n s)) (cS n s).length = gS f g n P D s := by
  unfold gnV gS cS kS
  rw [kp_onL, kp_onL]
theorem gnV_cut {f g : Nat → Int} {n q : Nat} {P D : Int} {h : Nat → Int} (C : Cut n q h) : gnV f g n P D h q = gS f g n P D (cutS h q) := by
  unfold gnV gS
  rw [C.kp, C.kp]
/-- How great they are. -/
theorem gain_bd {A B S T P D : Int} (hA : 0 ≤ A ∧ A ≤ 10000) (hB : 0 ≤ B ∧ B ≤ 10000) (hS : 0 ≤ S ∧ S ≤ 10000) (hT : 0 ≤ T ∧ T ≤ 10000) (hp : Prc P D) :
    (0 ≤ A * D ∧ A * D ≤ 100000000000) ∧ (0 ≤ A * D * S ∧ A * D * S ≤ 1000000000000000) ∧ (0 ≤ P * B ∧ P * B ≤ 10000000000000) ∧ (0 ≤ P * B * T ∧ P * B * T ≤ 100000000000000000) := by
  obtain ⟨⟨d1, d2⟩, p1, p2⟩ := hp
  have a0 := Int.mul_nonneg hA.1 (by omega : 0 ≤ D)
  have a1 := Int.mul_le_mul hA.2 d2 (by omega) (by omega)
  have b0 := Int.mul_nonneg a0 hS.1
  have b1 := Int.mul_le_mul a1 hS.2 hS.1 (by omega)
  have c0 := Int.mul_nonneg p1 hB.1
  have c1 := Int.mul_le_mul p2 hB.2 hB.1 (by omega)
  have e0 := Int.mul_nonneg c0 hT.1
  have e1 := Int.mul_le_mul c1 hT.2 hT.1 (by omega)
  omega
theorem wr64 {x : Int} (h : -1000000000000000000 ≤ x ∧ x ≤ 1000000000000000000) : IntKind.i64.wrap x = x ∧ wrap64 x = x := ⟨IntWalk.i64_in _ (by omega), IntWalk.wrap64_in _ (by omega)⟩
theorem kp_all2 {n q : Nat} {h : Nat → Int} (hc : Cut n q h) {f : Nat → Int} (hv : VW n f) : 0 ≤ kp f h q ∧ kp f h q ≤ 10000 := by
  have := kp_bd (k := q) (fun i hi => hv.ok i hi) hc.ok
  have := hc.few
  have := hv.few
  omega

set_option maxHeartbeats 2000000 in
set_option maxRecDepth 100000 in
theorem gain_any (a a2 a3 : Option Addr) (n c d q c3 : Nat) (f g h : Nat → Int) (P D : Int) (w : World) (hr : RdI w a n f) (hs : RdI w a2 n g) (ht : RdI w a3 q h) (hv : VO n n f g) (hc : Cut n q h) (hp : Prc P D) :
    Calls Tryz.prog 45 #[.agg #[.slice a n c, .slice a2 n d, .int .i64 (sm f n), .int .i64 (sm g n)], .slice a3 q c3, .agg #[.int .i64 P, .int .i64 D]] w fun e w' => e = .returned (.int .i64 (gnV f g n P D h q)) ∧ Gr w w' := by
  have n10 := hv.noise.few
  have q10 := hc.few
  have b1 := sm_le10 hv.noise
  have b2 := sm_le10 hv.signal
  have k1 := kp_all2 hc hv.noise
  have k2 := kp_all2 hc hv.signal
  have GB := gain_bd k2 k1 ⟨by omega, b1.2⟩ ⟨by omega, b2.2⟩ hp
  obtain ⟨W0, hW0⟩ : ∃ W0, (w.alloc (.cells #[.slice a n c, .slice a2 n d, .int .i64 (sm f n), .int .i64 (sm g n)] 57)).alloc (.cells #[.int .i64 P, .int .i64 D] 28) = W0 := ⟨_, rfl⟩
  have G0 := Lib.hid (show Gr w W0 by rw [← hW0]; exact ((Gr.refl w).alloc _).alloc _)
  obtain ⟨p0, p1, p2, p3, _⟩ := (show Box4 W0 w.heap.size (.slice a n c) (.slice a2 n d) (.int .i64 (sm f n)) (.int .i64 (sm g n)) by rw [← hW0]; exact (Box4.new rfl).gr ((Gr.refl _).alloc _))
  obtain ⟨s0, s1, _⟩ := (show Box2 W0 (w.heap.size + 1) P D by rw [← hW0]; exact Box2.new (by simp))
  have C1 := Lib.hid (fun w' (k : Gr w w') => kept_any a2 a3 n d q c3 g h w' (by omega) (hs.gr k) (ht.gr k) (fun i hi => by have := hv.signal.ok i hi; omega) hc.ok)
  have C2 := Lib.hid (fun w' (k : Gr w w') => kept_any a a3 n c q c3 f h w' (by omega) (hr.gr k) (ht.gr k) (fun i hi => by have := hv.noise.ok i hi; omega) hc.ok)
  have EV := Lib.hid (show gnV f g n P D h q = kp g h q * D * sm f n - P * kp f h q * sm g n from rfl)
  rw [EV.out]
  clear hr hs ht hv hc EV b1 b2 k1 k2 hp
  generalize sm f n = S at *
  generalize sm g n = T at *
  generalize kp g h q = A at *
  generalize kp f h q = B at *
  obtain ⟨X1, e1⟩ : ∃ X, A * D = X := ⟨_, rfl⟩
  rw [e1] at GB ⊢
  obtain ⟨X2, e2⟩ : ∃ X, X1 * S = X := ⟨_, rfl⟩
  rw [e2] at GB ⊢
  obtain ⟨X3, e3⟩ : ∃ X, P * B = X := ⟨_, rfl⟩
  rw [e3] at GB ⊢
  obtain ⟨X4, e4⟩ : ∃ X, X3 * T = X := ⟨_, rfl⟩
  rw [e4] at GB ⊢
  have q1 : IntKind.i64.wrap (A * D) = X1 := by rw [e1]; exact (wr64 (by omega)).1
  have q2 : IntKind.i64.wrap (X1 * S) = X2 := by rw [e2]; exact (wr64 (by omega)).1
  have q3 : IntKind.i64.wrap (P * B) = X3 := by rw [e3]; exact (wr64 (by omega)).1
  have q4 : IntKind.i64.wrap (X3 * T) = X4 := by rw [e4]; exact (wr64 (by omega)).1
  have q5 : IntKind.i64.wrap (X2 - X4) = X2 - X4 := (wr64 (by omega)).1
  clear e1 e2 e3 e4 GB
  go_enter Tryz.func45, Tryz.ntmps45
  go_wp2_with fail
  go_quiet (first
    | (go_at_call 41; with_reducible exact Calls.quiet_of_same (C1.out _ (G0.out.drewN _)))
    | (go_at_call 41; with_reducible exact Calls.quiet_of_same (C2.out _ (G0.out.drewN _))))
  go_wp2_with fail
  go_ret
  exact ⟨rfl, G0.out.drewN _⟩

set_option maxHeartbeats 1000000 in
theorem isPrice_any (P D : Int) (w : World) : Calls Tryz.prog 65 #[.agg #[.int .i64 P, .int .i64 D]] w (RetB (prB P D) w) := by
  obtain ⟨W0, hW0⟩ : ∃ W0, w.alloc (.cells #[.int .i64 P, .int .i64 D] 28) = W0 := ⟨_, rfl⟩
  have G0 := Lib.hid (show Gr w W0 by rw [← hW0]; exact (Gr.refl w).alloc _)
  obtain ⟨p0, p1, _⟩ := (show Box2 W0 w.heap.size P D by rw [← hW0]; exact Box2.new rfl)
  have C2 := Lib.hid (fun w' => between_any 0 P 1000000000 w')
  have EV := Lib.hid (show prB P D = (btw 1 D 10000000 && btw 0 P 1000000000) from rfl)
  rw [EV.out]
  clear EV
  cases h : btw 1 D 10000000 with
  | false =>
    have H := Lib.hid h
    have C1 := Lib.hid (fun w' => show Calls Tryz.prog 32 #[.int .i64 1, .int .i64 D, .int .i64 10000000] w' fun e w'' => e = .returned (.bool false) ∧ w' = w'' from by rw [← H.out]; exact between_any 1 D 10000000 w')
    clear h
    go_enter Tryz.func65, Tryz.ntmps65
    go_wp2_with (go_at_call 32; (with_reducible refine (C1.out _).mono ?_); rintro e w2 ⟨rfl, rfl⟩)
    go_ret
    exact ⟨rfl, G0.out⟩
  | true =>
    have H := Lib.hid h
    have C1 := Lib.hid (fun w' => show Calls Tryz.prog 32 #[.int .i64 1, .int .i64 D, .int .i64 10000000] w' fun e w'' => e = .returned (.bool true) ∧ w' = w'' from by rw [← H.out]; exact between_any 1 D 10000000 w')
    clear h
    generalize btw 0 P 1000000000 = b2 at *
    go_enter Tryz.func65, Tryz.ntmps65
    go_wp2_with (first
      | (go_at_call 32; (with_reducible refine (C1.out _).mono ?_); rintro e w2 ⟨rfl, rfl⟩)
      | (go_at_call 32; (with_reducible refine (C2.out _).mono ?_); rintro e w2 ⟨rfl, rfl⟩))
    go_ret
    exact ⟨by rw [Bool.true_and]; rfl, G0.out⟩
end Go.Proofs.YtohcnicadbpbbaaGreatDoor
