/- The best cut of a merge has no more signal than that of the odds. The walk of WeighGains: it returns true at all odds, cuts and prices. Contracts of chapter 7: the noise and the signal of a cut, both small. The walk of WeighProofs: it returns true at all odds, cuts and prices. -/
import Derived.Test.YtohcnicadbpbbaaGreatDoorMF
import Derived.Test.YtohcnicadbpbbaaGreatDoorXB
import Derived.Test.YtohcnicadbpbbaaGreatDoorXG
import Derived.Test.YtohcnicadbpbbaaGreatDoorME
import Derived.Test.YtohcnicadbpbbaaGreatDoorMD
import Derived.Test.YtohcnicadbpbbaaGreatDoorMB
import Derived.Test.YtohcnicadbpbbaaGreatDoorXT
namespace Go.Proofs.YtohcnicadbpbbaaGreatDoor

theorem set_of (p : Nat → Bool) (n : Nat) : ∃ s, s < 2 ^ n ∧ ∀ f : Nat → Int, kS f s n = sm (fun a => if p a then f a else 0) n := by
  have C := cut_onL p n
  exact ⟨cutS (nf (onL p n)) (onL p n).length, cutS_lt C, fun f => by rw [← C.kp, kp_onL]⟩
theorem best_is {f g : Nat → Int} {n : Nat} {A D : Int} (hp : Noi A D) (V : VW n f) : IsBest (2 ^ n) (beQ f n A D) (fun s => kS g s n) (cS n) (beB f g n A D) := bestR_best (beQ_zero hp V)
theorem mg_best {f g : Nat → Int} {n i j : Nat} {A D : Int} (hp : Noi A D) (V : VO n n f g) (V' : VO (n - 1) (n - 1) (mgF f i j) (mgF g i j)) (hij : i < j) (hj : j < n) :
    kS (mgF g i j) (beB (mgF f i j) (mgF g i j) (n - 1) A D) (n - 1) ≤ kS g (beB f g n A D) n := by
  have B' := best_is (g := mgF g i j) hp V'.noise
  have B := best_is (g := g) hp V.noise
  have ok := of_decide_eq_true (show decide _ = true from B'.ok)
  obtain ⟨s, hs, e⟩ := set_of (unM (beB (mgF f i j) (mgF g i j) (n - 1) A D).testBit i j) n
  have ef := (e f).trans (unM_sum f _ hij hj).symm
  have eg := (e g).trans (unM_sum g _ hij hj).symm
  have q : beQ f n A D s = true := by
    unfold beQ
    refine decide_eq_true ?_
    rw [ef, ← mg_sum f hij hj]
    exact ok
  have t : kS g s n ≤ kS g (beB f g n A D) n := by
    rcases B.top s hs q with h | ⟨h, _⟩
    · exact Int.le_of_lt h
    · exact Int.le_of_eq h
  rw [eg] at t
  exact t

end Go.Proofs.YtohcnicadbpbbaaGreatDoor

namespace Go.Proofs.YtohcnicadbpbbaaGreatDoor
open Go.RowKit Go.Firn

section
variable {a b a3 : Option Addr} {n c m d q c3 : Nat} {f g h : Nat → Int} {P D : Int} {w : World}
theorem top_is (n : Nat) (f g : Nat → Int) (P D : Int) : IsBest (2 ^ n) (fun _ => true) (gS f g n P D) (cS n) (drB f g n P D) := bestR_best rfl
theorem gS_top {s : Nat} (hs : s < 2 ^ n) : gS f g n P D s ≤ topV f g n P D := by
  unfold topV
  rcases (top_is n f g P D).top s hs rfl with h | ⟨h, _⟩ <;> omega
theorem gnV_top (C : Cut n q h) : gnV f g n P D h q ≤ topV f g n P D := by rw [gnV_cut C]; exact gS_top (cutS_lt C)
end
end Go.Proofs.YtohcnicadbpbbaaGreatDoor

namespace Go.Proofs.YtohcnicadbpbbaaGreatDoor
open Go.RowKit Go.Firn

/-- Two ratios and a word. -/
def RetKp (A B C D : Int) (w : World) (e : Ending) (w' : World) : Prop := e = .returned (.tuple #[.agg #[.int .i64 A, .int .i64 B], .agg #[.int .i64 C, .int .i64 D], .bool true]) ∧ Gr w w'
/-- The results' cells while they are stored anew. -/
def Kpt (w : World) (b2 b3 : Nat) (A B C D : Int) (W : World) : Prop := Box2 W b2 A B ∧ Box2 W b3 C D ∧ Gr w W
theorem Kpt.put2 {w W : World} {b2 b3 : Nat} {A B C D : Int} (h : Kpt w b2 b3 A B C D W) (h1 : b2 ≠ b3) (hb : w.heap.size ≤ b2) : Kpt w b2 b3 A B C D ((W.setCell ⟨b2, 0, none⟩ (.int .i64 A)).setCell ⟨b2, 1, none⟩ (.int .i64 B)) :=
  ⟨h.1.put, h.2.1.far h1 _ _, (h.2.2.setCell (p := ⟨b2, 0, none⟩) hb _).setCell (p := ⟨b2, 1, none⟩) hb _⟩
theorem Kpt.put3 {w W : World} {b2 b3 : Nat} {A B C D : Int} (h : Kpt w b2 b3 A B C D W) (h1 : b3 ≠ b2) (hb : w.heap.size ≤ b3) : Kpt w b2 b3 A B C D ((W.setCell ⟨b3, 0, none⟩ (.int .i64 C)).setCell ⟨b3, 1, none⟩ (.int .i64 D)) :=
  ⟨h.1.far h1 _ _, h.2.1.put, (h.2.2.setCell (p := ⟨b3, 0, none⟩) hb _).setCell (p := ⟨b3, 1, none⟩) hb _⟩
theorem Kpt.gr {w W W' : World} {b2 b3 : Nat} {A B C D : Int} (h : Kpt w b2 b3 A B C D W) (g : Gr W W') : Kpt w b2 b3 A B C D W' := ⟨h.1.gr g, h.2.1.gr g, h.2.2.trans g⟩
theorem Kpt.drew {w W : World} {b2 b3 : Nat} {A B C D : Int} (h : Kpt w b2 b3 A B C D W) : Kpt w b2 b3 A B C D W.drew := h.gr ((Gr.refl W).drew)

set_option maxHeartbeats 4000000 in
set_option maxRecDepth 100000 in
theorem kept_yes (a a2 a3 : Option Addr) (n c d q c3 : Nat) (f g h : Nat → Int) (w : World) (hr : RdI w a n f) (hs : RdI w a2 n g) (ht : RdI w a3 q h) (hf : ∀ i, 0 ≤ f i) (hg : ∀ i, 0 ≤ g i) (hv : VO n n f g) (hc : Cut n q h) :
    Calls Tryz.prog 14 #[.agg #[.slice a n c, .slice a2 n d], .slice a3 q c3] w (RetKp (rN (kp f h q) (sm f n)) (rD (kp f h q) (sm f n)) (rN (kp g h q) (sm g n)) (rD (kp g h q) (sm g n)) w) := by
  have n10 := hv.noise.few
  have q10 := hc.few
  have E := askE_ok (h := h) (vO_iff.2 hv) (cutB_iff.2 hc)
  have C1 := Lib.hid (show ∀ w', Gr w w' → Calls Tryz.prog 37 #[.agg #[.slice a n c, .slice a2 n d], .slice a3 q c3] w' (RetRE (rN (kp f h q) (sm f n)) (rD (kp f h q) (sm f n)) 0 w') from fun w' k => by
    have := Noise_any a a2 a3 n c n d q c3 f g h w' (by omega) (by omega) (by omega) (hr.gr k) (hs.gr k) (ht.gr k)
    rw [E] at this
    exact this)
  have C2 := Lib.hid (show ∀ w', Gr w w' → Calls Tryz.prog 38 #[.agg #[.slice a n c, .slice a2 n d], .slice a3 q c3] w' (RetRE (rN (kp g h q) (sm g n)) (rD (kp g h q) (sm g n)) 0 w') from fun w' k => by
    have := Signal_any a a2 a3 n c n d q c3 f g h w' (by omega) (by omega) (by omega) (hr.gr k) (hs.gr k) (ht.gr k)
    rw [E] at this
    exact this)
  have b1 := sm_le10 hv.noise
  have b2 := sm_le10 hv.signal
  have k1 := kp_all hc hf
  have k2 := kp_all hc hg
  have S1 := Lib.hid (fun w' => small_yes _ _ w' (sml_red b1.1 (by omega) k1.1 k1.2))
  have S2 := Lib.hid (fun w' => small_yes _ _ w' (sml_red b2.1 (by omega) k2.1 k2.2))
  clear hr hs ht hf hg hv hc E b1 b2 k1 k2
  generalize rN (kp f h q) (sm f n) = A at *
  generalize rD (kp f h q) (sm f n) = B at *
  generalize rN (kp g h q) (sm g n) = C at *
  generalize rD (kp g h q) (sm g n) = D at *
  obtain ⟨W0, hW0⟩ : ∃ W0, ((w.alloc (.cells #[.slice a n c, .slice a2 n d] 24)).alloc (.cells #[.int .i64 0, .int .i64 0] 28)).alloc (.cells #[.int .i64 0, .int .i64 0] 28) = W0 := ⟨_, rfl⟩
  have G0 := Lib.hid (show Gr w W0 by rw [← hW0]; exact (((Gr.refl w).alloc _).alloc _).alloc _)
  have BA := Lib.hid (show BoxO W0 w.heap.size (.slice a n c) (.slice a2 n d) by rw [← hW0]; exact (BoxO.new rfl).gr (((Gr.refl _).alloc _).alloc _))
  have B2 := Lib.hid (show Box2 W0 (w.heap.size + 1) 0 0 by rw [← hW0]; exact (Box2.new (by simp)).gr ((Gr.refl _).alloc _))
  have B3 := Lib.hid (show Box2 W0 (w.heap.size + 2) 0 0 by rw [← hW0]; exact Box2.new (by simp))
  have M1 : w.heap.size + 1 ≠ w.heap.size + 2 := by omega
  have M2 : w.heap.size + 2 ≠ w.heap.size + 1 := by omega
  have M3 : w.heap.size ≤ w.heap.size + 1 := by omega
  have M4 : w.heap.size ≤ w.heap.size + 2 := by omega
  have M5 : w.heap.size + 1 ≠ w.heap.size := by omega
  have M6 : w.heap.size + 2 ≠ w.heap.size := by omega
  obtain ⟨x0, x1⟩ := BA.out
  go_enter Tryz.func14, Tryz.ntmps14
  go_wp2_with (first
    | (go_at_call 37; (with_reducible refine (C1.out _ G0.out).mono ?_); rintro e v1 ⟨rfl, g1⟩; obtain ⟨p0, p1, p2, p3⟩ := B2.out.gr g1; obtain ⟨W1, hW1⟩ : ∃ W1, (v1.setCell ⟨w.heap.size + 1, 0, none⟩ (.int .i64 A)).setCell ⟨w.heap.size + 1, 1, none⟩ (.int .i64 B) = W1 := ⟨_, rfl⟩; have G1 := Lib.hid (show Gr w W1 by rw [← hW1]; exact ((G0.out.trans g1).setCell (p := ⟨w.heap.size + 1, 0, none⟩) M3 (.int .i64 A)).setCell (p := ⟨w.heap.size + 1, 1, none⟩) M3 (.int .i64 B)); have B2a := Lib.hid (show Box2 W1 (w.heap.size + 1) A B by rw [← hW1]; exact (B2.out.gr g1).put (x' := A) (y' := B)); have B3a := Lib.hid (show Box2 W1 (w.heap.size + 2) 0 0 by rw [← hW1]; exact (B3.out.gr g1).far M1 (.int .i64 A) (.int .i64 B)); have BA1 := Lib.hid (show BoxO W1 w.heap.size (.slice a n c) (.slice a2 n d) by rw [← hW1]; exact ⟨cell_far (cell_far (BA.out.gr g1).1 M5 _) M5 _, cell_far (cell_far (BA.out.gr g1).2 M5 _) M5 _⟩); clear x0 x1; obtain ⟨x0, x1⟩ := BA1.out; clear g1)
    | (go_at_call 38; (with_reducible refine (C2.out _ G1.out).mono ?_); rintro e v2 ⟨rfl, g2⟩; clear p0 p1 p2 p3; obtain ⟨p0, p1, p2, p3⟩ := B3a.out.gr g2; obtain ⟨W2, hW2⟩ : ∃ W2, (v2.setCell ⟨w.heap.size + 2, 0, none⟩ (.int .i64 C)).setCell ⟨w.heap.size + 2, 1, none⟩ (.int .i64 D) = W2 := ⟨_, rfl⟩; have KS := Lib.hid (show Kpt w (w.heap.size + 1) (w.heap.size + 2) A B C D W2 by rw [← hW2]; exact ⟨(B2a.out.gr g2).far M2 _ _, (B3a.out.gr g2).put, ((G1.out.trans g2).setCell (p := ⟨w.heap.size + 2, 0, none⟩) M4 (.int .i64 C)).setCell (p := ⟨w.heap.size + 2, 1, none⟩) M4 (.int .i64 D)⟩); clear x0 x1 g2))
  clear p0 p1 p2 p3
  refine (wpIn_wide (n := 3)).1 ?_
  refine wpIn_region_held (Kpt w (w.heap.size + 1) (w.heap.size + 2) A B C D) 19 (by kernel_rfl) rfl rfl ?_
  have hS := KS.out.drew
  iterate 10 (first
    | (refine wpAnyHIn_take 0 (v := ?_) rfl (by kernel_rfl) (by kernel_rfl) (by kernel_rfl) (by decide +kernel) (fun _ _ _ h => h) (fun _ _ _ => trivial) (by rfl) (fun w' hSw => ?_) hS ?_; rotate_left 1; (focus (obtain ⟨⟨a0, a1, a2', a3'⟩, ⟨b0, b1, b2', b3'⟩, _⟩ := hSw; go_simp; try with_reducible rfl)); simp only [Act.put, List.setIfInBounds_toArray, List.set_cons_zero, List.set_cons_succ])
    | (refine wpAnyHIn_take 1 (v := ?_) rfl (by kernel_rfl) (by kernel_rfl) (by kernel_rfl) (by decide +kernel) (fun _ _ _ h => h) (fun _ _ _ => trivial) (by rfl) (fun w' hSw => ?_) hS ?_; rotate_left 1; (focus (obtain ⟨⟨a0, a1, a2', a3'⟩, ⟨b0, b1, b2', b3'⟩, _⟩ := hSw; go_simp; try with_reducible rfl)); simp only [Act.put, List.setIfInBounds_toArray, List.set_cons_zero, List.set_cons_succ])
    | (refine wpAnyHIn_take 2 (v := ?_) rfl (by kernel_rfl) (by kernel_rfl) (by kernel_rfl) (by decide +kernel) (fun _ _ _ h => h) (fun _ _ _ => trivial) (by rfl) (fun w' hSw => ?_) hS ?_; rotate_left 1; (focus (obtain ⟨⟨a0, a1, a2', a3'⟩, ⟨b0, b1, b2', b3'⟩, _⟩ := hSw; go_simp; try with_reducible rfl)); simp only [Act.put, List.setIfInBounds_toArray, List.set_cons_zero, List.set_cons_succ])
    | (refine wpAnyHIn_take 3 (v := ?_) rfl (by kernel_rfl) (by kernel_rfl) (by kernel_rfl) (by decide +kernel) (fun _ _ _ h => h) (fun _ _ _ => trivial) (by rfl) (fun w' hSw => ?_) hS ?_; rotate_left 1; (focus (obtain ⟨⟨a0, a1, a2', a3'⟩, ⟨b0, b1, b2', b3'⟩, _⟩ := hSw; go_simp; try with_reducible rfl)); simp only [Act.put, List.setIfInBounds_toArray, List.set_cons_zero, List.set_cons_succ])
    | (refine wpAnyHIn_take 4 (v := ?_) rfl (by kernel_rfl) (by kernel_rfl) (by kernel_rfl) (by decide +kernel) (fun _ _ _ h => h) (fun _ _ _ => trivial) (by rfl) (fun w' hSw => ?_) hS ?_; rotate_left 1; (focus (obtain ⟨⟨a0, a1, a2', a3'⟩, ⟨b0, b1, b2', b3'⟩, _⟩ := hSw; go_simp; try with_reducible rfl)); simp only [Act.put, List.setIfInBounds_toArray, List.set_cons_zero, List.set_cons_succ])
    | (refine wpAnyHIn_take 5 (v := ?_) rfl (by kernel_rfl) (by kernel_rfl) (by kernel_rfl) (by decide +kernel) (fun _ _ _ h => h) (fun _ _ _ => trivial) (by rfl) (fun w' hSw => ?_) hS ?_; rotate_left 1; (focus (obtain ⟨⟨a0, a1, a2', a3'⟩, ⟨b0, b1, b2', b3'⟩, _⟩ := hSw; go_simp; try with_reducible rfl)); simp only [Act.put, List.setIfInBounds_toArray, List.set_cons_zero, List.set_cons_succ])
    | (refine wpAnyHIn_take 6 (v := ?_) rfl (by kernel_rfl) (by kernel_rfl) (by kernel_rfl) (by decide +kernel) (fun _ _ _ h => h) (fun _ _ _ => trivial) (by rfl) (fun w' hSw => ?_) hS ?_; rotate_left 1; (focus (obtain ⟨⟨a0, a1, a2', a3'⟩, ⟨b0, b1, b2', b3'⟩, _⟩ := hSw; go_simp; try with_reducible rfl)); simp only [Act.put, List.setIfInBounds_toArray, List.set_cons_zero, List.set_cons_succ])
    | (refine wpAnyHIn_take 7 (v := ?_) rfl (by kernel_rfl) (by kernel_rfl) (by kernel_rfl) (by decide +kernel) (fun _ _ _ h => h) (fun _ _ _ => trivial) (by rfl) (fun w' hSw => ?_) hS ?_; rotate_left 1; (focus (obtain ⟨⟨a0, a1, a2', a3'⟩, ⟨b0, b1, b2', b3'⟩, _⟩ := hSw; go_simp; try with_reducible rfl)); simp only [Act.put, List.setIfInBounds_toArray, List.set_cons_zero, List.set_cons_succ])
    | (refine wpAnyHIn_take 8 (v := ?_) rfl (by kernel_rfl) (by kernel_rfl) (by kernel_rfl) (by decide +kernel) (fun _ _ _ h => h) (fun _ _ _ => trivial) (by rfl) (fun w' hSw => ?_) hS ?_; rotate_left 1; (focus (obtain ⟨⟨a0, a1, a2', a3'⟩, ⟨b0, b1, b2', b3'⟩, _⟩ := hSw; go_simp; try with_reducible rfl)); simp only [Act.put, List.setIfInBounds_toArray, List.set_cons_zero, List.set_cons_succ])
    | (refine wpAnyHIn_take 9 (v := ?_) rfl (by kernel_rfl) (by kernel_rfl) (by kernel_rfl) (by decide +kernel) (fun _ _ _ h => h) (fun _ _ _ => trivial) (by rfl) (fun w' hSw => ?_) hS ?_; rotate_left 1; (focus (obtain ⟨⟨a0, a1, a2', a3'⟩, ⟨b0, b1, b2', b3'⟩, _⟩ := hSw; go_simp; try with_reducible rfl)); simp only [Act.put, List.setIfInBounds_toArray, List.set_cons_zero, List.set_cons_succ]))
  refine wpAnyHIn_ready [10] (by kernel_rfl) (by simp) ?_
  refine AllHIn.cons rfl (by rfl) (fun K hK => ?_) AllHIn.nil
  go_simp
  refine ⟨trivial, ?_⟩
  refine (callsIn_wide.2 (S1.out _)).mono ?_
  rintro e wX ⟨rfl, gX⟩
  have hS := hS.gr gX
  refine hK.out _ _ hS ?_
  clear hK K gX
  iterate 3 (first
    | (refine wpAnyHIn_take 11 (v := ?_) rfl (by kernel_rfl) (by kernel_rfl) (by kernel_rfl) (by decide +kernel) (fun _ _ _ h => h) (fun _ _ _ => trivial) (by rfl) (fun w' hSw => ?_) hS ?_; rotate_left 1; (focus (obtain ⟨⟨a0, a1, a2', a3'⟩, ⟨b0, b1, b2', b3'⟩, _⟩ := hSw; go_simp; try with_reducible rfl)); simp only [Act.put, List.setIfInBounds_toArray, List.set_cons_zero, List.set_cons_succ])
    | (refine wpAnyHIn_take 12 (v := ?_) rfl (by kernel_rfl) (by kernel_rfl) (by kernel_rfl) (by decide +kernel) (fun _ _ _ h => h) (fun _ _ _ => trivial) (by rfl) (fun w' hSw => ?_) hS ?_; rotate_left 1; (focus (obtain ⟨⟨a0, a1, a2', a3'⟩, ⟨b0, b1, b2', b3'⟩, _⟩ := hSw; go_simp; try with_reducible rfl)); simp only [Act.put, List.setIfInBounds_toArray, List.set_cons_zero, List.set_cons_succ])
    | (refine wpAnyHIn_take 13 (v := ?_) rfl (by kernel_rfl) (by kernel_rfl) (by kernel_rfl) (by decide +kernel) (fun _ _ _ h => h) (fun _ _ _ => trivial) (by rfl) (fun w' hSw => ?_) hS ?_; rotate_left 1; (focus (obtain ⟨⟨a0, a1, a2', a3'⟩, ⟨b0, b1, b2', b3'⟩, _⟩ := hSw; go_simp; try with_reducible rfl)); simp only [Act.put, List.setIfInBounds_toArray, List.set_cons_zero, List.set_cons_succ]))
  refine wpAnyHIn_ready [14] (by kernel_rfl) (by simp) ?_
  refine AllHIn.cons rfl (by rfl) (fun K hK => ?_) AllHIn.nil
  go_simp
  refine ⟨trivial, ?_⟩
  refine (callsIn_wide.2 (S2.out _)).mono ?_
  rintro e wX ⟨rfl, gX⟩
  have hS := hS.gr gX
  refine hK.out _ _ hS ?_
  clear hK K gX
  iterate 1 (first
    | (refine wpAnyHIn_take 15 (v := ?_) rfl (by kernel_rfl) (by kernel_rfl) (by kernel_rfl) (by decide +kernel) (fun _ _ _ h => h) (fun _ _ _ => trivial) (by rfl) (fun w' hSw => ?_) hS ?_; rotate_left 1; (focus (skip; go_simp; try with_reducible rfl)); simp only [Act.put, List.setIfInBounds_toArray, List.set_cons_zero, List.set_cons_succ]))
  refine wpAnyHIn_ready [16] (by kernel_rfl) (by simp) ?_
  refine AllHIn.cons rfl (by rfl) (fun K hK => ?_) AllHIn.nil
  have hS0 := hS
  obtain ⟨⟨a0, a1, a2', a3'⟩, ⟨b0, b1, b2', b3'⟩, _⟩ := hS0
  go_simp
  have hS := Kpt.put2 hS M1 M3
  refine hK.out _ _ hS ?_
  clear hK K a0 a1 a2' a3' b0 b1 b2' b3'
  refine wpAnyHIn_ready [17] (by kernel_rfl) (by simp) ?_
  refine AllHIn.cons rfl (by rfl) (fun K hK => ?_) AllHIn.nil
  have hS0 := hS
  obtain ⟨⟨a0, a1, a2', a3'⟩, ⟨b0, b1, b2', b3'⟩, _⟩ := hS0
  go_simp
  have hS := Kpt.put3 hS M2 M4
  refine hK.out _ _ hS ?_
  clear hK K a0 a1 a2' a3' b0 b1 b2' b3'
  iterate 1 (first
    | (refine wpAnyHIn_take 18 (v := ?_) rfl (by kernel_rfl) (by kernel_rfl) (by kernel_rfl) (by decide +kernel) (fun _ _ _ h => h) (fun _ _ _ => trivial) (by rfl) (fun w' hSw => ?_) hS ?_; rotate_left 1; (focus (skip; go_simp; try with_reducible rfl)); simp only [Act.put, List.setIfInBounds_toArray, List.set_cons_zero, List.set_cons_succ]))
  refine wpAnyHIn_done (by kernel_rfl) ?_ _
  obtain ⟨⟨r0, r1, _, _⟩, ⟨r2, r3, _, _⟩, rg⟩ := hS
  go_wp2_with fail
  exact bodyPost_ret (v := .tuple #[.agg #[.int .i64 A, .int .i64 B], .agg #[.int .i64 C, .int .i64 D], .bool true]) (by simp [results, Tryz.results14, go_sem, r0, r1, r2, r3]) rfl ⟨rfl, rg⟩

end Go.Proofs.YtohcnicadbpbbaaGreatDoor

namespace Go.Proofs.YtohcnicadbpbbaaGreatDoor
open Go.RowKit Go.Firn

theorem nn_all2 {n : Nat} {f : Nat → Int} (V : VW n f) (hf : ∀ i, n ≤ i → f i = 0) (i : Nat) : 0 ≤ f i := by
  by_cases h : i < n
  · exact (V.ok i h).1
  · rw [hf i (by omega)]; exact Int.le_refl 0
theorem kp_all3 {n q : Nat} {f h : Nat → Int} (C : Cut n q h) (_V : VW n f) (hf : ∀ i, 0 ≤ f i) : 0 ≤ kp f h q ∧ kp f h q ≤ sm f n := by
  rw [C.kp]
  exact kS_bd hf _ n
theorem red_inj {n m d : Int} (hd : 0 < d) (h1 : rN n d = rN m d) (h2 : rD n d = rD m d) : n = m := by
  have a : ¬ n < m := fun h => by
    have := (red_lt hd hd).2 (Int.mul_lt_mul_of_pos_right h hd)
    rw [h1, h2] at this
    omega
  have b : ¬ m < n := fun h => by
    have := (red_lt hd hd).2 (Int.mul_lt_mul_of_pos_right h hd)
    rw [h1, h2] at this
    omega
  omega
/-- A cut that is proved: no cut with as little noise has more signal. -/
theorem proved_best {f g h u : Nat → Int} {n q q4 : Nat} {P D : Int} (V : VO n n f g) (hp : Prc P D) (C4 : Cut n q4 u) (hG : gnV f g n P D h q = topV f g n P D) (hn : kp f u q4 ≤ kp f h q) : kp g u q4 ≤ kp g h q := by
  have t := gnV_top (f := f) (g := g) (P := P) (D := D) C4
  rw [← hG] at t
  unfold gnV at t
  have s1 := V.noise.sum
  have s2 := V.signal.sum
  have hD : 0 < D := by have := hp.1; omega
  have m1 : P * kp f u q4 * sm g n ≤ P * kp f h q * sm g n := Int.mul_le_mul_of_nonneg_right (Int.mul_le_mul_of_nonneg_left hn hp.2.1) (by omega)
  have m2 : kp g u q4 * D * sm f n ≤ kp g h q * D * sm f n := by omega
  have m3 : kp g u q4 * D ≤ kp g h q * D := Int.le_of_mul_le_mul_right m2 (by omega)
  exact Int.le_of_mul_le_mul_right m3 hD

end Go.Proofs.YtohcnicadbpbbaaGreatDoor
