/- Proved: TrackLeast returns true at all points, and its argument reads afterwards as before. Conditions: none. -/
import Derived.Test.YtbhndfnfohoidaaW27
import Derived.Test.YtbhndfnfohoidaaW17
import Derived.Test.YtbhndfnfohoidaaW28
import Derived.ProofKit
import Derived.OpenShut
import Derived.ShutString
import Derived.ChangeOld
import Derived.Below
namespace Go.Proofs.Ytbhndfnfohoidaa.trackLeast
open Go.ChangeShapes Go.WideShapes Go.ChangeAt Go.RowKit Go.Firn
open Go.ChangeMaps (open_string shut_string)

theorem own : ownKnob Try.prog.godebug = none := by kernel_rfl
theorem laidOut : laidOutB Try.prog = true := by kernel_rfl

set_option maxHeartbeats 2000000 in
set_option maxRecDepth 100000 in
theorem walk (a : Option Addr) (n c : Nat) (X Y : Nat → Int) (w : World) (hn : n ≤ 9223372036854775807) (hr : RdM w a n X Y) (hc : n ≤ c) :
    Calls Try.prog 4 #[.slice a n c] w (RetB true w) := by
  have HL := Lib.hid (fun w1 => Long_any a n c w1 hn)
  by_cases h1 : 60 < n
  · have e1 : decide (60 < n) = true := by simpa using h1
    rw [e1] at HL
    clear e1
    go_enter Try.func4, Try.ntmps4
    go_wp2_with (first
      | (go_at_call 15; refine (HL.out _).mono ?_; rintro e w' ⟨rfl, rfl⟩)
      | (go_at_call 16; refine (Awake_any _).mono ?_; rintro e w6 ⟨rfl, hg11⟩))
    go_ret
    exact ⟨rfl, hg11⟩
  have e1 : decide (60 < n) = false := by simpa using h1
  rw [e1] at HL
  have n60 : n ≤ 1000 := by omega
  have C3 := Lib.hid (fun w1 (g : Gr w w1) => Least_any a n c X Y w1 n60 (hr.gr g))
  have C4 := Lib.hid (fun w1 (g : Gr w w1) => refLeast_any a n c X Y w1 n60 hc (hr.gr g))
  have D3 := Lib.hid (fun w1 (g : Gr w w1) => Narrowest_any a n c X Y w1 n60 (hr.gr g))
  have D4 := Lib.hid (fun w1 (g : Gr w w1) => refNarrowest_any a n c X Y w1 n60 (hr.gr g))
  have O3 := Lib.hid (fun w1 (g : Gr w w1) => Witness_any a n c X Y w1 n60 (hr.gr g))
  have O4 := Lib.hid (fun w1 (g : Gr w w1) => refWitness_any a n c X Y w1 n60 (hr.gr g))
  have G := Lib.hid (Gr.refl w)
  clear e1 hr h1 hc hn
  generalize leN n X Y = cN at *
  generalize leD n X Y = cD at *
  generalize leE n X Y = cE at *
  generalize naN n X Y = uN at *
  generalize naD n X Y = uD at *
  generalize naE n X Y = uE at *
  generalize nf (wiL n X Y) = oF at *
  generalize (wiL n X Y).length = oL at *
  generalize wiE n X Y = oE at *
  go_enter Try.func4, Try.ntmps4
  go_wp2_with (first
    | (go_at_call 15; refine (HL.out _).mono ?_; rintro e w' ⟨rfl, rfl⟩)
    | (go_at_call 19
       refine (C3.out _ G.out).mono ?_
       rintro e w3 ⟨rfl, g3⟩
       have g3' := g3.alloc (.cells #[.int .i64 cN, .int .i64 cD] 27)
       have G3 := Lib.hid (G.out.trans g3')
       have N3 : w.heap.size ≤ w3.heap.size := g3.size
       have B9 := Lib.hid (show Box2 (w3.alloc (.cells #[.int .i64 cN, .int .i64 cD] 27)) w3.heap.size cN cD from Box2.new rfl)
       clear g3 g3')
    | (go_at_call 20
       refine (C4.out _ G3.out).mono ?_
       rintro e w4 ⟨rfl, g4⟩
       have g4' := g4.alloc (.cells #[.int .i64 cN, .int .i64 cD] 27)
       have G4 := Lib.hid (G3.out.trans g4')
       have N4 : w3.heap.size < w4.heap.size := by have := g4.size; simp at this; omega
       have B10 := Lib.hid (show Box2 (w4.alloc (.cells #[.int .i64 cN, .int .i64 cD] 27)) w4.heap.size cN cD from Box2.new rfl)
       have B9' := Lib.hid (B9.out.gr g4')
       obtain ⟨p0, p1, p2, p3⟩ := B9'.out
       clear g4 g4')
    | (go_at_call 21
       refine (D3.out _ G4.out).mono ?_
       rintro e w5 ⟨rfl, g5⟩
       have b9 := B9'.out.gr g5
       have C9 := Lib.hid (Box2.put (x' := uN) (y' := uD) b9)
       have C10 := Lib.hid ((B10.out.gr g5).far (show w3.heap.size ≠ w4.heap.size by omega) (.int .i64 uN) (.int .i64 uD))
       have G5 := Lib.hid (G4.out.trans g5)
       obtain ⟨q0, q1, q2, q3⟩ := b9
       clear g5)
    | (go_at_call 22
       refine (D4.out _ ((G5.out.setAt (by omega) _).setAt (by omega) _)).mono ?_
       rintro e w6 ⟨rfl, g6⟩
       have b10 := Box2.gr C10.out g6
       have E9 := Lib.hid ((C9.out.gr g6).far (show w4.heap.size ≠ w3.heap.size by omega) (.int .i64 uN) (.int .i64 uD))
       have E10 := Lib.hid (Box2.put (x' := uN) (y' := uD) b10)
       have G6 := Lib.hid (((((G5.out.setAt (b := w3.heap.size) (j := 0) (by omega) (.int .i64 uN)).setAt (b := w3.heap.size) (j := 1) (by omega) (.int .i64 uD)).trans g6).setAt (b := w4.heap.size) (j := 0) (by omega) (.int .i64 uN)).setAt (b := w4.heap.size) (j := 1) (by omega) (.int .i64 uD))
       obtain ⟨s0, s1, s2, s3⟩ := b10
       clear g6)
    | (go_at_call 23
       refine (O3.out _ G6.out).mono ?_
       rintro e w7 ⟨a7, c7, rfl, o1, o2, rd7, g7⟩
       have F9 := Lib.hid (E9.out.gr g7)
       have F10 := Lib.hid (E10.out.gr g7)
       have G7 := Lib.hid (G6.out.trans g7)
       have RD7 := Lib.hid rd7
       clear g7 rd7)
    | (go_at_call 24
       refine (O4.out _ G7.out).mono ?_
       rintro e w8 ⟨a8, c8, rfl, o3, o4, rd8, g8⟩
       have RD8 := Lib.hid rd8
       have RD7' := Lib.hid (RD7.out.gr g8)
       have G8 := Lib.hid (G7.out.trans g8)
       obtain ⟨i0, i1, i2, i3⟩ := F9.out.gr g8
       obtain ⟨j0, j1, j2, j3⟩ := F10.out.gr g8
       clear g8 rd8)
    | (go_at_call 25
       refine (SameInts_any a7 a8 oL c7 oL c8 oF oF _ (by unfold maxLen at o2; omega) (by unfold maxLen at o2; omega) RD7'.out RD8.out).mono ?_
       rintro e w9 ⟨rfl, g9⟩
       rw [eqB_true.2 ⟨rfl, fun _ _ => rfl⟩]
       have G9 := Lib.hid (G8.out.trans g9)
       clear g9)
    | (go_at_call 16; refine (Awake_any _).mono ?_; rintro e w6 ⟨rfl, hg11⟩))
  go_ret
  exact ⟨rfl, G9.out.trans hg11⟩

set_option maxRecDepth 100000 in
theorem lifted (os : Os) (started : os.Started) (H : Type) (enc : TypeId × Value → H) :
    ReturnsInHanded {} Try.checked os 4 .any (Rows.trackLeastSpec.pre6 enc Try.prog Try.f4 Rows.trackLeastRow.domain false) (Rows.trackLeastSpec.post enc Try.prog Try.f4 false true false false) := by
  refine returnsInHanded_of_change (C := Try.checked) own started (by kernel_rfl) Try.func4
    (ChangeSpec.witness6 (enc := enc) (C := Try.checked) false ⟨#[], #[.slice none 0 0], []⟩ 8 (by kernel_rfl) (by kernel_rfl) (by kernel_rfl) (by kernel_rfl)) ?_
  intro W base args ds gs before hval0 hW hcnd _
  have hval : ∀ (j : Nat) t v, Try.f4.params[j]? = some t → args[j]? = some v → Value.okWide Try.prog W .any base t v := hval0
  have hW' := hW
  obtain ⟨p, q, hA0, hV, rfl, hfz, hnd⟩ := hW
  have hA : DataW.TrodAll enc Try.prog W 0 (fun _ => true) true Try.f4.params.toList args.toList ds p := hA0
  rw [Try.params4] at hA hval
  obtain ⟨v0, vs0, d0, ds0, p0, q0, hargs, rfl, rfl, h0, r0⟩ := trodAll_cons hA
  obtain ⟨rfl, rfl, rfl⟩ := trodAll_nil r0
  obtain rfl : args = #[v0] := by cases args; simp_all
  obtain ⟨rfl, rfl⟩ := trodVars_none hV
  obtain ⟨a0, len0, cap0, rfl⟩ := okWide_slice Try.underlying22 (hval 0 22 v0 rfl rfl)
  have wc0 : len0 ≤ cap0 := by
    obtain ⟨fuel, hf⟩ := h0
    exact slice_le Try.underlying22 hf
  have k0 := h0
  have lt0 : ∀ x ∈ p0, x.block < W.heap.size := by obtain ⟨m, hm⟩ := k0; exact DataW.trod_lt m _ _ _ hm
  obtain ⟨x0, y0, wn0, _, wr0⟩ : ∃ f g : Nat → Int, len0 ≤ 9223372036854775807 ∧ (∀ i, i < len0 → (Lit.int .i64 (f i)).wf = true ∧ (Lit.int .i64 (g i)).wf = true) ∧ RdM W a0 len0 f g := by
    obtain ⟨fuel, hf⟩ := h0
    exact RdM.of_trod Try.underlying22 Try.underlying56 (by kernel_rfl) ⟨rfl, rfl⟩ ⟨rfl, rfl⟩ (by kernel_rfl) Try.underlying3 hf
  clear hA0 hval0
  refine (walk a0 len0 cap0 x0 y0 W wn0 wr0 wc0).mono fun e W' ⟨he, bel⟩ => ?_
  subst he
  exact ⟨_, rfl, _, _, _, [], _, [], hW', trodAll_mk1 (shut_bool Try.underlying4 _), (trodAll_cons_mk (Below.trod laidOut (by kernel_rfl) (of_decide_eq_true (by kernel_rfl)) k0 bel lt0) trodAll_mk0), rfl, bel.frame _, fun h => by cases h⟩

theorem over : Rows.trackLeastRow.holds Try.pinned (OpenSpec.ofChange Rows.trackLeastSpec) :=
  OpenClaim.holds_of_wide 4 Try.f4 rfl rfl rfl rfl rfl rfl rfl ⟨rfl, rfl, rfl, rfl, rfl⟩ rfl rfl rfl rfl rfl (by kernel_rfl) Try.func4 (by kernel_rfl)
    (of_decide_eq_true (by kernel_rfl)) (by unfold Func.isWrapper; first | (rw [if_pos (by decide +kernel)]; kernel_rfl) | (rw [if_neg (by decide +kernel)]; exact ⟨rfl, rfl⟩))
    (fun os started H enc _ => lifted os started H enc)

/-- The statement. -/
theorem proved : Rows.TrackLeastSaid := over
end Go.Proofs.Ytbhndfnfohoidaa.trackLeast
