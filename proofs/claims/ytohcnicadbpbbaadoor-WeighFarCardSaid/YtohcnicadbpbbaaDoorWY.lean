/- Contracts of chapter 7: the noise and the signal of a cut, both small. -/
import Derived.Test.YtohcnicadbpbbaaDoorW8
import Derived.Test.YtohcnicadbpbbaaDoorXT
import Derived.Test.YtohcnicadbpbbaaDoorP13
namespace Go.Proofs.YtohcnicadbpbbaaDoor
open Go.RowKit Go.Firn

/-- Two ratios and a word. -/
def RetKp (A B C D : Int) (w : World) (e : Ending) (w' : World) : Prop := e = .returned (.tuple #[.agg #[.int .i64 A, .int .i64 B], .agg #[.int .i64 C, .int .i64 D], .bool true]) ∧ Gr w w'
/-- The results' cells while they are stored anew. -/
def Kpt (w : World) (b2 b3 : Nat) (A B C D : Int) (W : World) : Prop := Box2 W b2 A B ∧ Box2 W b3 C D ∧ Gr w W
theorem Kpt.put2 {w W : World} {b2 b3 : Nat} {A B C D : Int} (h : Kpt w b2 b3 A B C D W) (h1 : b2 ≠ b3) (hb : w.heap.size ≤ b2) : Kpt w b2 b3 A B C D ((W.setCell ⟨b2, 0, none⟩ (.int .i64 A)).setCell ⟨b2, 1, none⟩ (.int .i64 B)) :=
  ⟨h.1.put, h.2.1.far h1 _ _, (h.2.2.setCell (p := ⟨b2, 0, none⟩) hb _).setCell (p := ⟨b2, 1, none⟩) hb _⟩
theorem Kpt.put3 {w W : World} {b2 b3 : Nat} {A B C D : Int} (h : Kpt w b2 b3 A B C D W) (h1 : b3 ≠ b2) (hb : w.heap.size ≤ b3) : Kpt w b2 b3 A B C D ((W.setCell ⟨b3, 0, none⟩ (.int .i64 C)).setCell ⟨b3, 1, none⟩ (.int .i64 D)) :=
  ⟨h.1.far h1 _ _, h.2.1.put, (h.2.2.setCell (p := ⟨b3, 0, none⟩) hb _).setCell (p := ⟨b3, 1, none⟩) hb _⟩
theorem Kpt.gr {w W W' : World} {b2 b3 : Nat} {A B C D : Int} (h : Kpt w b2 b3 A B C D W) (g : Gr W W') : Kpt w b2 b3 A B C D W' := ⟨h.1.gr g, h.2.1.gr g, h.2.2.trans g⟩
theorem Kpt.drew {w W : World} {b2 b3 : Nat} {A B C D : Int} (h : Kpt w b2 b3 A B C D W) : Kpt w b2 b3 A B C D W.drew := h.gr ((Gr.refl W).drew)

set_option maxHeartbeats 4000000 in
set_option maxRecDepth 100000 in
theorem kept_yes (a a2 a3 : Option Addr) (n c d q c3 : Nat) (f g h : Nat → Int) (w : World) (hr : RdI w a n f) (hs : RdI w a2 n g) (ht : RdI w a3 q h) (hf : ∀ i, 0 ≤ f i) (hg : ∀ i, 0 ≤ g i) (hv : VO n n f g) (hc : Cut n q h) :
    Calls Tryd.prog 20 #[.agg #[.slice a n c, .slice a2 n d], .slice a3 q c3] w (RetKp (rN (kp f h q) (sm f n)) (rD (kp f h q) (sm f n)) (rN (kp g h q) (sm g n)) (rD (kp g h q) (sm g n)) w) := by
  have n10 := hv.noise.few
  have q10 := hc.few
  have E := askE_ok (h := h) (vO_iff.2 hv) (cutB_iff.2 hc)
  have C1 := Lib.hid (show ∀ w', Gr w w' → Calls Tryd.prog 49 #[.agg #[.slice a n c, .slice a2 n d], .slice a3 q c3] w' (RetRE (rN (kp f h q) (sm f n)) (rD (kp f h q) (sm f n)) 0 w') from fun w' k => by
    have := Noise_any a a2 a3 n c n d q c3 f g h w' (by omega) (by omega) (by omega) (hr.gr k) (hs.gr k) (ht.gr k)
    rw [E] at this
    exact this)
  have C2 := Lib.hid (show ∀ w', Gr w w' → Calls Tryd.prog 50 #[.agg #[.slice a n c, .slice a2 n d], .slice a3 q c3] w' (RetRE (rN (kp g h q) (sm g n)) (rD (kp g h q) (sm g n)) 0 w') from fun w' k => by
    have := Signal_any a a2 a3 n c n d q c3 f g h w' (by omega) (by omega) (by omega) (hr.gr k) (hs.gr k) (ht.gr k)
    rw [E] at this
    exact this)
  have b1 := sm_le10 hv.noise
  have b2 := sm_le10 hv.signal
  have k1 := kp_all hc hf
  have k2 := kp_all hc hg
  have S1 := Lib.hid (fun w' => small_yes _ _ w' (sml_red b1.1 (by omega) k1.1 k1.2))
  have S2 := Lib.hid (fun w' => small_yes _ _ w' (sml_red b2.1 (by omega) k2.1 k2.2))
  clear hr hs ht hf hg hv hc E b1 b2 k1 k2
  generalize rN (kp f h q) (sm f n) = A at *
  generalize rD (kp f h q) (sm f n) = B at *
  generalize rN (kp g h q) (sm g n) = C at *
  generalize rD (kp g h q) (sm g n) = D at *
  obtain ⟨W0, hW0⟩ : ∃ W0, ((w.alloc (.cells #[.slice a n c, .slice a2 n d] 24)).alloc (.cells #[.int .i64 0, .int .i64 0] 26)).alloc (.cells #[.int .i64 0, .int .i64 0] 26) = W0 := ⟨_, rfl⟩
  have G0 := Lib.hid (show Gr w W0 by rw [← hW0]; exact (((Gr.refl w).alloc _).alloc _).alloc _)
  have BA := Lib.hid (show BoxO W0 w.heap.size (.slice a n c) (.slice a2 n d) by rw [← hW0]; exact (BoxO.new rfl).gr (((Gr.refl _).alloc _).alloc _))
  have B2 := Lib.hid (show Box2 W0 (w.heap.size + 1) 0 0 by rw [← hW0]; exact (Box2.new (by simp)).gr ((Gr.refl _).alloc _))
  have B3 := Lib.hid (show Box2 W0 (w.heap.size + 2) 0 0 by rw [← hW0]; exact Box2.new (by simp))
  have M1 : w.heap.size + 1 ≠ w.heap.size + 2 := by omega
  have M2 : w.heap.size + 2 ≠ w.heap.size + 1 := by omega
  have M3 : w.heap.size ≤ w.heap.size + 1 := by omega
  have M4 : w.heap.size ≤ w.heap.size + 2 := by omega
  have M5 : w.heap.size + 1 ≠ w.heap.size := by omega
  have M6 : w.heap.size + 2 ≠ w.heap.size := by omega
  obtain ⟨x0, x1⟩ := BA.out
  go_enter Tryd.func20, Tryd.ntmps20
  go_wp2_with (first
    | (go_at_call 49; (with_reducible refine (C1.out _ G0.out).mono ?_); rintro e v1 ⟨rfl, g1⟩; obtain ⟨p0, p1, p2, p3⟩ := B2.out.gr g1; obtain ⟨W1, hW1⟩ : ∃ W1, (v1.setCell ⟨w.heap.size + 1, 0, none⟩ (.int .i64 A)).setCell ⟨w.heap.size + 1, 1, none⟩ (.int .i64 B) = W1 := ⟨_, rfl⟩; have G1 := Lib.hid (show Gr w W1 by rw [← hW1]; exact ((G0.out.trans g1).setCell (p := ⟨w.heap.size + 1, 0, none⟩) M3 (.int .i64 A)).setCell (p := ⟨w.heap.size + 1, 1, none⟩) M3 (.int .i64 B)); have B2a := Lib.hid (show Box2 W1 (w.heap.size + 1) A B by rw [← hW1]; exact (B2.out.gr g1).put (x' := A) (y' := B)); have B3a := Lib.hid (show Box2 W1 (w.heap.size + 2) 0 0 by rw [← hW1]; exact (B3.out.gr g1).far M1 (.int .i64 A) (.int .i64 B)); have BA1 := Lib.hid (show BoxO W1 w.heap.size (.slice a n c) (.slice a2 n d) by rw [← hW1]; exact ⟨cell_far (cell_far (BA.out.gr g1).1 M5 _) M5 _, cell_far (cell_far (BA.out.gr g1).2 M5 _) M5 _⟩); clear x0 x1; obtain ⟨x0, x1⟩ := BA1.out; clear g1)
    | (go_at_call 50; (with_reducible refine (C2.out _ G1.out).mono ?_); rintro e v2 ⟨rfl, g2⟩; clear p0 p1 p2 p3; obtain ⟨p0, p1, p2, p3⟩ := B3a.out.gr g2; obtain ⟨W2, hW2⟩ : ∃ W2, (v2.setCell ⟨w.heap.size + 2, 0, none⟩ (.int .i64 C)).setCell ⟨w.heap.size + 2, 1, none⟩ (.int .i64 D) = W2 := ⟨_, rfl⟩; have KS := Lib.hid (show Kpt w (w.heap.size + 1) (w.heap.size + 2) A B C D W2 by rw [← hW2]; exact ⟨(B2a.out.gr g2).far M2 _ _, (B3a.out.gr g2).put, ((G1.out.trans g2).setCell (p := ⟨w.heap.size + 2, 0, none⟩) M4 (.int .i64 C)).setCell (p := ⟨w.heap.size + 2, 1, none⟩) M4 (.int .i64 D)⟩); clear x0 x1 g2))
  clear p0 p1 p2 p3
  refine (wpIn_wide (n := 3)).1 ?_
  refine wpIn_region_held (Kpt w (w.heap.size + 1) (w.heap.size + 2) A B C D) 19 (by kernel_rfl) rfl rfl ?_
  have hS := KS.out.drew
  iterate 10 (first
    | (refine wpAnyHIn_take 0 (v := ?_) rfl (by kernel_rfl) (by kernel_rfl) (by kernel_rfl) (by decide +kernel) (fun _ _ _ h => h) (fun _ _ _ => trivial) (by rfl) (fun w' hSw => ?_) hS ?_; rotate_left 1; (focus (obtain ⟨⟨a0, a1, a2', a3'⟩, ⟨b0, b1, b2', b3'⟩, _⟩ := hSw; go_simp; try with_reducible rfl)); simp only [Act.put, List.setIfInBounds_toArray, List.set_cons_zero, List.set_cons_succ])
    | (refine wpAnyHIn_take 1 (v := ?_) rfl (by kernel_rfl) (by kernel_rfl) (by kernel_rfl) (by decide +kernel) (fun _ _ _ h => h) (fun _ _ _ => trivial) (by rfl) (fun w' hSw => ?_) hS ?_; rotate_left 1; (focus (obtain ⟨⟨a0, a1, a2', a3'⟩, ⟨b0, b1, b2', b3'⟩, _⟩ := hSw; go_simp; try with_reducible rfl)); simp only [Act.put, List.setIfInBounds_toArray, List.set_cons_zero, List.set_cons_succ])
    | (refine wpAnyHIn_take 2 (v := ?_) rfl (by kernel_rfl) (by kernel_rfl) (by kernel_rfl) (by decide +kernel) (fun _ _ _ h => h) (fun _ _ _ => trivial) (by rfl) (fun w' hSw => ?_) hS ?_; rotate_left 1; (focus (obtain ⟨⟨a0, a1, a2', a3'⟩, ⟨b0, b1, b2', b3'⟩, _⟩ := hSw; go_simp; try with_reducible rfl)); simp only [Act.put, List.setIfInBounds_toArray, List.set_cons_zero, List.set_cons_succ])
    | (refine wpAnyHIn_take 3 (v := ?_) rfl (by kernel_rfl) (by kernel_rfl) (by kernel_rfl) (by decide +kernel) (fun _ _ _ h => h) (fun _ _ _ => trivial) (by rfl) (fun w' hSw => ?_) hS ?_; rotate_left 1; (focus (obtain ⟨⟨a0, a1, a2', a3'⟩, ⟨b0, b1, b2', b3'⟩, _⟩ := hSw; go_simp; try with_reducible rfl)); simp only [Act.put, List.setIfInBounds_toArray, List.set_cons_zero, List.set_cons_succ])
    | (refine wpAnyHIn_take 4 (v := ?_) rfl (by kernel_rfl) (by kernel_rfl) (by kernel_rfl) (by decide +kernel) (fun _ _ _ h => h) (fun _ _ _ => trivial) (by rfl) (fun w' hSw => ?_) hS ?_; rotate_left 1; (focus (obtain ⟨⟨a0, a1, a2', a3'⟩, ⟨b0, b1, b2', b3'⟩, _⟩ := hSw; go_simp; try with_reducible rfl)); simp only [Act.put, List.setIfInBounds_toArray, List.set_cons_zero, List.set_cons_succ])
    | (refine wpAnyHIn_take 5 (v := ?_) rfl (by kernel_rfl) (by kernel_rfl) (by kernel_rfl) (by decide +kernel) (fun _ _ _ h => h) (fun _ _ _ => trivial) (by rfl) (fun w' hSw => ?_) hS ?_; rotate_left 1; (focus (obtain ⟨⟨a0, a1, a2', a3'⟩, ⟨b0, b1, b2', b3'⟩, _⟩ := hSw; go_simp; try with_reducible rfl)); simp only [Act.put, List.setIfInBounds_toArray, List.set_cons_zero, List.set_cons_succ])
    | (refine wpAnyHIn_take 6 (v := ?_) rfl (by kernel_rfl) (by kernel_rfl) (by kernel_rfl) (by decide +kernel) (fun _ _ _ h => h) (fun _ _ _ => trivial) (by rfl) (fun w' hSw => ?_) hS ?_; rotate_left 1; (focus (obtain ⟨⟨a0, a1, a2', a3'⟩, ⟨b0, b1, b2', b3'⟩, _⟩ := hSw; go_simp; try with_reducible rfl)); simp only [Act.put, List.setIfInBounds_toArray, List.set_cons_zero, List.set_cons_succ])
    | (refine wpAnyHIn_take 7 (v := ?_) rfl (by kernel_rfl) (by kernel_rfl) (by kernel_rfl) (by decide +kernel) (fun _ _ _ h => h) (fun _ _ _ => trivial) (by rfl) (fun w' hSw => ?_) hS ?_; rotate_left 1; (focus (obtain ⟨⟨a0, a1, a2', a3'⟩, ⟨b0, b1, b2', b3'⟩, _⟩ := hSw; go_simp; try with_reducible rfl)); simp only [Act.put, List.setIfInBounds_toArray, List.set_cons_zero, List.set_cons_succ])
    | (refine wpAnyHIn_take 8 (v := ?_) rfl (by kernel_rfl) (by kernel_rfl) (by kernel_rfl) (by decide +kernel) (fun _ _ _ h => h) (fun _ _ _ => trivial) (by rfl) (fun w' hSw => ?_) hS ?_; rotate_left 1; (focus (obtain ⟨⟨a0, a1, a2', a3'⟩, ⟨b0, b1, b2', b3'⟩, _⟩ := hSw; go_simp; try with_reducible rfl)); simp only [Act.put, List.setIfInBounds_toArray, List.set_cons_zero, List.set_cons_succ])
    | (refine wpAnyHIn_take 9 (v := ?_) rfl (by kernel_rfl) (by kernel_rfl) (by kernel_rfl) (by decide +kernel) (fun _ _ _ h => h) (fun _ _ _ => trivial) (by rfl) (fun w' hSw => ?_) hS ?_; rotate_left 1; (focus (obtain ⟨⟨a0, a1, a2', a3'⟩, ⟨b0, b1, b2', b3'⟩, _⟩ := hSw; go_simp; try with_reducible rfl)); simp only [Act.put, List.setIfInBounds_toArray, List.set_cons_zero, List.set_cons_succ]))
  refine wpAnyHIn_ready [10] (by kernel_rfl) (by simp) ?_
  refine AllHIn.cons rfl (by rfl) (fun K hK => ?_) AllHIn.nil
  go_simp
  refine ⟨trivial, ?_⟩
  refine (callsIn_wide.2 (S1.out _)).mono ?_
  rintro e wX ⟨rfl, gX⟩
  have hS := hS.gr gX
  refine hK.out _ _ hS ?_
  clear hK K gX
  iterate 3 (first
    | (refine wpAnyHIn_take 11 (v := ?_) rfl (by kernel_rfl) (by kernel_rfl) (by kernel_rfl) (by decide +kernel) (fun _ _ _ h => h) (fun _ _ _ => trivial) (by rfl) (fun w' hSw => ?_) hS ?_; rotate_left 1; (focus (obtain ⟨⟨a0, a1, a2', a3'⟩, ⟨b0, b1, b2', b3'⟩, _⟩ := hSw; go_simp; try with_reducible rfl)); simp only [Act.put, List.setIfInBounds_toArray, List.set_cons_zero, List.set_cons_succ])
    | (refine wpAnyHIn_take 12 (v := ?_) rfl (by kernel_rfl) (by kernel_rfl) (by kernel_rfl) (by decide +kernel) (fun _ _ _ h => h) (fun _ _ _ => trivial) (by rfl) (fun w' hSw => ?_) hS ?_; rotate_left 1; (focus (obtain ⟨⟨a0, a1, a2', a3'⟩, ⟨b0, b1, b2', b3'⟩, _⟩ := hSw; go_simp; try with_reducible rfl)); simp only [Act.put, List.setIfInBounds_toArray, List.set_cons_zero, List.set_cons_succ])
    | (refine wpAnyHIn_take 13 (v := ?_) rfl (by kernel_rfl) (by kernel_rfl) (by kernel_rfl) (by decide +kernel) (fun _ _ _ h => h) (fun _ _ _ => trivial) (by rfl) (fun w' hSw => ?_) hS ?_; rotate_left 1; (focus (obtain ⟨⟨a0, a1, a2', a3'⟩, ⟨b0, b1, b2', b3'⟩, _⟩ := hSw; go_simp; try with_reducible rfl)); simp only [Act.put, List.setIfInBounds_toArray, List.set_cons_zero, List.set_cons_succ]))
  refine wpAnyHIn_ready [14] (by kernel_rfl) (by simp) ?_
  refine AllHIn.cons rfl (by rfl) (fun K hK => ?_) AllHIn.nil
  go_simp
  refine ⟨trivial, ?_⟩
  refine (callsIn_wide.2 (S2.out _)).mono ?_
  rintro e wX ⟨rfl, gX⟩
  have hS := hS.gr gX
  refine hK.out _ _ hS ?_
  clear hK K gX
  iterate 1 (first
    | (refine wpAnyHIn_take 15 (v := ?_) rfl (by kernel_rfl) (by kernel_rfl) (by kernel_rfl) (by decide +kernel) (fun _ _ _ h => h) (fun _ _ _ => trivial) (by rfl) (fun w' hSw => ?_) hS ?_; rotate_left 1; (focus (skip; go_simp; try with_reducible rfl)); simp only [Act.put, List.setIfInBounds_toArray, List.set_cons_zero, List.set_cons_succ]))
  refine wpAnyHIn_ready [16] (by kernel_rfl) (by simp) ?_
  refine AllHIn.cons rfl (by rfl) (fun K hK => ?_) AllHIn.nil
  have hS0 := hS
  obtain ⟨⟨a0, a1, a2', a3'⟩, ⟨b0, b1, b2', b3'⟩, _⟩ := hS0
  go_simp
  have hS := Kpt.put2 hS M1 M3
  refine hK.out _ _ hS ?_
  clear hK K a0 a1 a2' a3' b0 b1 b2' b3'
  refine wpAnyHIn_ready [17] (by kernel_rfl) (by simp) ?_
  refine AllHIn.cons rfl (by rfl) (fun K hK => ?_) AllHIn.nil
  have hS0 := hS
  obtain ⟨⟨a0, a1, a2', a3'⟩, ⟨b0, b1, b2', b3'⟩, _⟩ := hS0
  go_simp
  have hS := Kpt.put3 hS M2 M4
  refine hK.out _ _ hS ?_
  clear hK K a0 a1 a2' a3' b0 b1 b2' b3'
  iterate 1 (first
    | (refine wpAnyHIn_take 18 (v := ?_) rfl (by kernel_rfl) (by kernel_rfl) (by kernel_rfl) (by decide +kernel) (fun _ _ _ h => h) (fun _ _ _ => trivial) (by rfl) (fun w' hSw => ?_) hS ?_; rotate_left 1; (focus (skip; go_simp; try with_reducible rfl)); simp only [Act.put, List.setIfInBounds_toArray, List.set_cons_zero, List.set_cons_succ]))
  refine wpAnyHIn_done (by kernel_rfl) ?_ _
  obtain ⟨⟨r0, r1, _, _⟩, ⟨r2, r3, _, _⟩, rg⟩ := hS
  go_wp2_with fail
  exact bodyPost_ret (v := .tuple #[.agg #[.int .i64 A, .int .i64 B], .agg #[.int .i64 C, .int .i64 D], .bool true]) (by simp [results, Tryd.results20, go_sem, r0, r1, r2, r3]) rfl ⟨rfl, rg⟩

end Go.Proofs.YtohcnicadbpbbaaDoor
