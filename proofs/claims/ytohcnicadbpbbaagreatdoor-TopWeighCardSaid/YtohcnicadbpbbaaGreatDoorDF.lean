/- Contracts of chapter 7: which list is first; the dearest cut, of the program and of the reference. -/
import Derived.Test.YtohcnicadbpbbaaGreatDoorDE
import Derived.Test.YtohcnicadbpbbaaGreatDoorMD
namespace Go.Proofs.YtohcnicadbpbbaaGreatDoor
open Go.RowKit Go.Firn

/-- The dearest set. -/
def drB (f g : Nat → Int) (n : Nat) (P D : Int) : Nat := bestR (fun _ => true) (gS f g n P D) (cS n) (2 ^ n)
theorem best_eq {n b : Nat} {Q : Nat → Bool} {v : Nat → Int} (h0 : Q 0 = true) (h : IsBest (2 ^ n) Q v (cS n) b) : b = bestR Q v (cS n) (2 ^ n) := by
  have k := bestR_is (P := Q) (v := v) (L := cS n) h0 (2 ^ n - 1)
  have e : 2 ^ n - 1 + 1 = 2 ^ n := by have := Nat.two_pow_pos n; omega
  rw [e] at k
  exact h.unique (fun s t hs ht e => cS_inj hs ht e) k
theorem bestR_best {n : Nat} {Q : Nat → Bool} {v : Nat → Int} (h0 : Q 0 = true) : IsBest (2 ^ n) Q v (cS n) (bestR Q v (cS n) (2 ^ n)) := by
  have k := bestR_is (P := Q) (v := v) (L := cS n) h0 (2 ^ n - 1)
  have e : 2 ^ n - 1 + 1 = 2 ^ n := by have := Nat.two_pow_pos n; omega
  rw [e] at k
  exact k
theorem bestR_lt (Q : Nat → Bool) (v : Nat → Int) (L : Nat → List Nat) : ∀ k, bestR Q v L k = 0 ∨ bestR Q v L k < k
  | 0 => .inl rfl
  | k + 1 => by
    show (if _ then k else bestR Q v L k) = 0 ∨ (if _ then k else bestR Q v L k) < k + 1
    split
    · exact .inr (by omega)
    · exact (bestR_lt Q v L k).imp id (by omega)
theorem cS_zero (n : Nat) : cS n 0 = [] := by unfold cS onL; simp
theorem cS_cut (n s : Nat) : Cut n (cS n s).length (nf (cS n s)) := cut_onL _ n
theorem shl_i64 : ∀ n : Nat, n < 11 → IntKind.i64.wrap ((2 : Int) ^ n) = ((2 ^ n : Nat) : Int) ∧ wrap64 ((2 : Int) ^ n) = ((2 ^ n : Nat) : Int) := by decide +kernel

set_option maxHeartbeats 1000000 in
theorem dearest1_any (av : Value) (w : World) : Calls Tryz.prog 66 #[av] w (RetB true w) := by
  go_enter Tryz.func66, Tryz.ntmps66
  go_wp2_with fail
  go_ret
  exact ⟨rfl, Gr.refl _⟩
set_option maxHeartbeats 1000000 in
theorem dearest2_any (a a2 : Option Addr) (n c d b2 b3 : Nat) (f g : Nat → Int) (P D : Int) (w : World) (hr : RdI w a n f) (hs : RdI w a2 n g) (hv : VO n n f g) (hp : Prc P D) (B2 : Box4 w b2 (.slice a n c) (.slice a2 n d) (.int .i64 (sm f n)) (.int .i64 (sm g n))) (B3 : Box2 w b3 P D) (s B : Nat) (av : Value) (hx : LiB w B (cS n s) av) :
    Calls Tryz.prog 67 #[av, .pointer (some ⟨b2, 0, none⟩), .pointer (some ⟨b3, 0, none⟩)] w fun e w' => e = .returned (.int .i64 (gS f g n P D s)) ∧ Gr w w' := by
  obtain ⟨a3, c3, rfl, _, _, h3⟩ := hx.rd
  obtain ⟨p0, p1, p2, p3, _⟩ := B2
  obtain ⟨r0, r1, _⟩ := B3
  have C := Lib.hid (gain_any a a2 a3 n c d _ c3 f g _ P D w hr hs h3 hv (cS_cut n s) hp)
  rw [gnV_onL] at C
  clear hr hs hv hp hx h3
  go_enter Tryz.func67, Tryz.ntmps67
  go_wp2_with (go_at_call 45; (with_reducible refine C.out.mono ?_); rintro e w1 ⟨rfl, g1⟩)
  go_ret
  exact ⟨rfl, g1⟩

set_option maxHeartbeats 2000000 in
set_option maxRecDepth 100000 in
theorem dearest_any (a a2 : Option Addr) (n c d : Nat) (f g : Nat → Int) (P D : Int) (w : World) (hr : RdI w a n f) (hs : RdI w a2 n g) (hv : VO n n f g) (hp : Prc P D) (hT : Tab w) :
    Calls Tryz.prog 46 #[.agg #[.slice a n c, .slice a2 n d, .int .i64 (sm f n), .int .i64 (sm g n)], .agg #[.int .i64 P, .int .i64 D]] w (RetC (cS n (drB f g n P D)) w) := by
  obtain ⟨W0, hW0⟩ : ∃ W0, (w.alloc (.cells #[.slice a n c, .slice a2 n d, .int .i64 (sm f n), .int .i64 (sm g n)] 57)).alloc (.cells #[.int .i64 P, .int .i64 D] 28) = W0 := ⟨_, rfl⟩
  have G0 := Lib.hid (show Gr w W0 by rw [← hW0]; exact ((Gr.refl w).alloc _).alloc _)
  have B2 := Lib.hid (show Box4 W0 w.heap.size (.slice a n c) (.slice a2 n d) (.int .i64 (sm f n)) (.int .i64 (sm g n)) by rw [← hW0]; exact (Box4.new rfl).gr ((Gr.refl _).alloc _))
  have B3 := Lib.hid (show Box2 W0 (w.heap.size + 1) P D by rw [← hW0]; exact Box2.new (by simp))
  obtain ⟨p0, p1, p2, p3, _⟩ := B2.out
  have hmf : ∀ (fn : Fn) (first cap : Array Value) (w : World), (Instr.makeFunc fn first cap).run Tryz.prog w = .ok (.func fn first cap) w := fun _ _ _ _ => rfl
  have CB := Lib.hid (best_any a a2 n c d (sm f n) (sm g n) hv.noise.few 66 67 #[] #[.pointer (some ⟨w.heap.size, 0, none⟩), .pointer (some ⟨w.heap.size + 1, 0, none⟩)] (fun _ => true) (gS f g n P D) W0 (hT.gr G0.out)
    (enters_of Tryz.func66 (by kernel_rfl) rfl) (enters_of Tryz.func67 (by kernel_rfl) rfl) (fun w' _ s _ av B _ => dearest1_any av w')
    (fun w' k s _ av B hx => dearest2_any a a2 n c d _ _ f g P D w' (hr.gr (G0.out.trans k)) (hs.gr (G0.out.trans k)) hv hp (B2.out.gr k) (B3.out.gr k) s B av hx) rfl)
  have EB := Lib.hid (show ∀ b, IsBest (2 ^ n) (fun _ => true) (gS f g n P D) (cS n) b → drB f g n P D = b from fun b h => (best_eq (n := n) rfl h).symm)
  clear hr hs hv hp hT
  generalize sm f n = S at *
  generalize sm g n = T at *
  go_enter Tryz.func46, Tryz.ntmps46
  go_wp2_with (go_at_call 42; (with_reducible refine CB.out.mono ?_); rintro e w1 ⟨b, hb, av, cv, rfl, l1, l2, r1, g1⟩)
  go_ret
  rw [EB.out b hb]
  exact ⟨av, cv, rfl, l1, l2, r1, G0.out.trans g1⟩

/-- Two lists that are the same ahead of an index. -/
theorem lexI_ne {x y : Nat} {l m : List Nat} (h : x ≠ y) : (lexI (x :: l) (y :: m) < 0) ↔ x < y := by
  rw [lexI_cons]
  by_cases h1 : x < y
  · simp [h1]
  · rw [if_neg h1, if_pos (by omega)]
    simp [h1]
theorem lexI_same (x : Nat) (l m : List Nat) : lexI (x :: l) (x :: m) = lexI l m := by rw [lexI_cons]; simp
def fstB (L M : List Nat) : Bool := decide (cfL L M < 0)

end Go.Proofs.YtohcnicadbpbbaaGreatDoor
