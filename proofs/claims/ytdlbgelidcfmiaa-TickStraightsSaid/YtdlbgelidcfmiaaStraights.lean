/- Proved: TickStraights returns true at every two clocks, and its arguments read afterwards as before. Conditions: none. -/
import Derived.Test.YtdlbgelidcfmiaaW38e
import Derived.Test.YtdlbgelidcfmiaaW38f
import Derived.Test.YtdlbgelidcfmiaaW38l
import Derived.Test.YtdlbgelidcfmiaaW38A
import Derived.Test.YtdlbgelidcfmiaaW38B
import Derived.Test.YtdlbgelidcfmiaaW38C
import Derived.Test.YtdlbgelidcfmiaaW38D
import Derived.Test.YtdlbgelidcfmiaaW38E
import Derived.ProofKit
import Derived.OpenShut
import Derived.ShutString
import Derived.ChangeOld
import Derived.Below
namespace Go.Proofs.Ytdlbgelidcfmiaa.tickStraights
open Go.ChangeShapes Go.WideShapes Go.ChangeAt Go.RowKit Go.Firn

theorem own : ownKnob Try.prog.godebug = none := by kernel_rfl
theorem laidOut : laidOutB Try.prog = true := by kernel_rfl

set_option maxRecDepth 100000 in
theorem walk_far (a a' : Option Addr) (n c n' c' : Nat) (L T L' T' : Nat → Int) (w : World) (hn : n ≤ 9223372036854775807) (hn' : n' ≤ 9223372036854775807) (hr : RdM w a n L T) (hr' : RdM w a' n' L' T')
    (hd : 100 < n ∨ (¬ 100 < n ∧ 100 < n') ∨ (¬ 100 < n ∧ ¬ 100 < n' ∧ vK n L T = false) ∨ (¬ 100 < n ∧ ¬ 100 < n' ∧ vK n L T = true ∧ vK n' L' T' = false)) :
    Calls Try.prog 13 #[.slice a n c, .slice a' n' c'] w (RetB true w) := by
  have V1 := Lib.hid (fun b (hb : vK n L T = b) w1 h => show Calls Try.prog 34 #[.slice a n c] w1 (RetB b w1) by have := refValidClock_any a n c L T w1 hn h; rwa [hb] at this)
  have V2 := Lib.hid (fun b (hb : vK n' L' T' = b) w1 h => show Calls Try.prog 34 #[.slice a' n' c'] w1 (RetB b w1) by have := refValidClock_any a' n' c' L' T' w1 hn' h; rwa [hb] at this)
  have HR := Lib.hid hr
  have HR' := Lib.hid hr'
  clear hr hr'
  rcases hd with h1 | ⟨h1, h2⟩ | ⟨h1, h2, h3⟩ | ⟨h1, h2, h3, h4⟩
  · go_enter Try.func13, Try.ntmps13
    go_wp2_with (first
      | (go_at_call 30; refine (Long_any a n c _ hn).mono ?_; rintro e w1 ⟨rfl, rfl⟩)
      | (go_at_call 17; refine (Awake_any _).mono ?_; rintro e w6 ⟨rfl, g2⟩))
    go_ret
    exact ⟨rfl, g2⟩
  · go_enter Try.func13, Try.ntmps13
    go_wp2_with (first
      | (go_at_call 30; refine (Long_any a n c _ hn).mono ?_; rintro e w1 ⟨rfl, rfl⟩)
      | (go_at_call 30; refine (Long_any a' n' c' _ hn').mono ?_; rintro e w1 ⟨rfl, rfl⟩)
      | (go_at_call 17; refine (Awake_any _).mono ?_; rintro e w6 ⟨rfl, g2⟩))
    go_ret
    exact ⟨rfl, g2⟩
  · have W1 := Lib.hid (V1.out false h3)
    clear V1 V2 h3
    go_enter Try.func13, Try.ntmps13
    go_wp2_with (first
      | (go_at_call 30; refine (Long_any a n c _ hn).mono ?_; rintro e w1 ⟨rfl, rfl⟩)
      | (go_at_call 30; refine (Long_any a' n' c' _ hn').mono ?_; rintro e w1 ⟨rfl, rfl⟩))
    refine (W1.out _ HR.out).mono ?_
    rintro e w2 ⟨rfl, g⟩
    go_wp2_with (go_at_call 17; refine (Awake_any _).mono ?_; rintro e w6 ⟨rfl, g2⟩)
    go_ret
    exact ⟨rfl, g.trans g2⟩
  · have W1 := Lib.hid (V1.out true h3)
    have W2 := Lib.hid (V2.out false h4)
    clear V1 V2 h3 h4
    go_enter Try.func13, Try.ntmps13
    go_wp2_with (first
      | (go_at_call 30; refine (Long_any a n c _ hn).mono ?_; rintro e w1 ⟨rfl, rfl⟩)
      | (go_at_call 30; refine (Long_any a' n' c' _ hn').mono ?_; rintro e w1 ⟨rfl, rfl⟩))
    refine (W1.out _ HR.out).mono ?_
    rintro e w2 ⟨rfl, g⟩
    go_wp2_with fail
    refine (W2.out _ (HR'.out.gr g)).mono ?_
    rintro e w3 ⟨rfl, g3⟩
    go_wp2_with (go_at_call 17; refine (Awake_any _).mono ?_; rintro e w6 ⟨rfl, g2⟩)
    go_ret
    exact ⟨rfl, (g.trans g3).trans g2⟩


theorem walk (a : Option Addr) (n c : Nat) (L T : Nat → Int) (a' : Option Addr) (n' c' : Nat) (L' T' : Nat → Int) (w : World) (hn : n ≤ 9223372036854775807) (_wf : ∀ i, i < n → (Lit.int .i64 (L i)).wf = true ∧ (Lit.int .i64 (T i)).wf = true) (hr : RdM w a n L T)
    (hn' : n' ≤ 9223372036854775807) (_wf' : ∀ i, i < n' → (Lit.int .i64 (L' i)).wf = true ∧ (Lit.int .i64 (T' i)).wf = true) (hr' : RdM w a' n' L' T') :
    Calls Try.prog 13 #[.slice a n c, .slice a' n' c'] w (RetB true w) := by
  by_cases hs : 100 < n
  · exact walk_far a a' n c n' c' L T L' T' w hn hn' hr hr' (.inl hs)
  by_cases hs' : 100 < n'
  · exact walk_far a a' n c n' c' L T L' T' w hn hn' hr hr' (.inr (.inl ⟨hs, hs'⟩))
  cases hv : vK n L T with
  | false => exact walk_far a a' n c n' c' L T L' T' w hn hn' hr hr' (.inr (.inr (.inl ⟨hs, hs', hv⟩)))
  | true =>
    cases hv' : vK n' L' T' with
    | false => exact walk_far a a' n c n' c' L T L' T' w hn hn' hr hr' (.inr (.inr (.inr ⟨hs, hs', hv, hv'⟩)))
    | true =>
      cases h1 : eqM (kM n L T - 2) (kM n' L' T' - 2) (fun i => kL n L T (i + 1)) (fun i => kT n L T (i + 1)) (fun i => kL n' L' T' (i + 1)) (fun i => kT n' L' T' (i + 1)) with
      | false => exact walk_e a a' n c n' c' L T L' T' w hn hn' hr hr' hs hs' hv hv' h1
      | true =>
        cases h2 : slB (kL n L T 0) (kT n L T 0) (kL n L T 1) (kT n L T 1) (kL n' L' T' 0) (kT n' L' T' 0) (kL n' L' T' 1) (kT n' L' T' 1) with
        | false => exact walk_f a a' n c n' c' L T L' T' w hn hn' hr hr' hs hs' hv hv' h1 h2
        | true =>
          cases h3 : slB (kL n L T (kM n L T - 2)) (kT n L T (kM n L T - 2)) (kL n L T (kM n L T - 1)) (kT n L T (kM n L T - 1)) (kL n' L' T' (kM n' L' T' - 2)) (kT n' L' T' (kM n' L' T' - 2)) (kL n' L' T' (kM n' L' T' - 1)) (kT n' L' T' (kM n' L' T' - 1)) with
          | false => exact walk_l a a' n c n' c' L T L' T' w hn hn' hr hr' hs hs' hv hv' h1 h2 h3
          | true =>
            by_cases hx : L 0 = L' 0
            · by_cases hy : T 0 = T' 0
              · by_cases hp : L (n - 1) = L' (n' - 1)
                · by_cases hq : T (n - 1) = T' (n' - 1)
                  · exact walk_E a a' n c n' c' L T L' T' w hn hn' hr hr' hs hs' hv hv' h1 h2 h3 hx hy hp hq
                  · exact walk_D a a' n c n' c' L T L' T' w hn hn' hr hr' hs hs' hv hv' h1 h2 h3 hx hy hp hq
                · exact walk_C a a' n c n' c' L T L' T' w hn hn' hr hr' hs hs' hv hv' h1 h2 h3 hx hy hp
              · exact walk_B a a' n c n' c' L T L' T' w hn hn' hr hr' hs hs' hv hv' h1 h2 h3 hx hy
            · exact walk_A a a' n c n' c' L T L' T' w hn hn' hr hr' hs hs' hv hv' h1 h2 h3 hx

set_option maxRecDepth 100000 in
theorem lifted (os : Os) (started : os.Started) (H : Type) (enc : TypeId × Value → H) :
    ReturnsInHanded {} Try.checked os 13 .any (Rows.tickStraightsSpec.pre6 enc Try.prog Try.f13 Rows.tickStraightsRow.domain false) (Rows.tickStraightsSpec.post enc Try.prog Try.f13 false true false false) := by
  refine returnsInHanded_of_change (C := Try.checked) own started (by kernel_rfl) Try.func13
    (ChangeSpec.witness6 (enc := enc) (C := Try.checked) false ⟨#[], #[.slice none 0 0, .slice none 0 0], []⟩ 8 (by kernel_rfl) (by kernel_rfl) (by kernel_rfl) (by kernel_rfl)) ?_
  intro W base args ds gs before hval0 hW hcnd _
  have hval : ∀ (j : Nat) t v, Try.f13.params[j]? = some t → args[j]? = some v → Value.okWide Try.prog W .any base t v := hval0
  have hW' := hW
  obtain ⟨p, q, hA0, hV, rfl, hfz, hnd⟩ := hW
  have hA : DataW.TrodAll enc Try.prog W 0 (fun _ => true) true Try.f13.params.toList args.toList ds p := hA0
  rw [Try.params13] at hA hval
  obtain ⟨v0, vs0, d0, ds0, p0, q0, hargs, rfl, rfl, h0, r0⟩ := trodAll_cons hA
  obtain ⟨v1, vs1, d1, ds1, p1, q1, rfl, rfl, rfl, h1, r1⟩ := trodAll_cons r0
  obtain ⟨rfl, rfl, rfl⟩ := trodAll_nil r1
  obtain rfl : args = #[v0, v1] := by cases args; simp_all
  obtain ⟨rfl, rfl⟩ := trodVars_none hV
  obtain ⟨a0, len0, cap0, rfl⟩ := okWide_slice Try.underlying35 (hval 0 35 v0 rfl rfl)
  have k0 := h0
  have lt0 : ∀ x ∈ p0, x.block < W.heap.size := by obtain ⟨m, hm⟩ := k0; exact DataW.trod_lt m _ _ _ hm
  obtain ⟨x0, y0, wn0, wf0, wr0⟩ : ∃ f g : Nat → Int, len0 ≤ 9223372036854775807 ∧ (∀ i, i < len0 → (Lit.int .i64 (f i)).wf = true ∧ (Lit.int .i64 (g i)).wf = true) ∧ RdM W a0 len0 f g := by
    obtain ⟨fuel, hf⟩ := h0
    exact RdM.of_trod Try.underlying35 Try.underlying64 (by kernel_rfl) ⟨rfl, rfl⟩ ⟨rfl, rfl⟩ (by kernel_rfl) Try.underlying3 hf
  obtain ⟨a1, len1, cap1, rfl⟩ := okWide_slice Try.underlying35 (hval 1 35 v1 rfl rfl)
  have k1 := h1
  have lt1 : ∀ x ∈ p1, x.block < W.heap.size := by obtain ⟨m, hm⟩ := k1; exact DataW.trod_lt m _ _ _ hm
  obtain ⟨x1, y1, wn1, wf1, wr1⟩ : ∃ f g : Nat → Int, len1 ≤ 9223372036854775807 ∧ (∀ i, i < len1 → (Lit.int .i64 (f i)).wf = true ∧ (Lit.int .i64 (g i)).wf = true) ∧ RdM W a1 len1 f g := by
    obtain ⟨fuel, hf⟩ := h1
    exact RdM.of_trod Try.underlying35 Try.underlying64 (by kernel_rfl) ⟨rfl, rfl⟩ ⟨rfl, rfl⟩ (by kernel_rfl) Try.underlying3 hf
  clear hA0 hval0
  refine (walk a0 len0 cap0 x0 y0 a1 len1 cap1 x1 y1 W wn0 wf0 wr0 wn1 wf1 wr1).mono fun e W' ⟨he, bel⟩ => ?_
  subst he
  exact ⟨_, rfl, _, _, _, [], _, [], hW', trodAll_mk1 (shut_bool Try.underlying4 _), (trodAll_cons_mk (Below.trod laidOut (by kernel_rfl) (of_decide_eq_true (by kernel_rfl)) k0 bel lt0) (trodAll_cons_mk (Below.trod laidOut (by kernel_rfl) (of_decide_eq_true (by kernel_rfl)) k1 bel lt1) trodAll_mk0)), rfl, bel.frame _, fun h => by cases h⟩

theorem over : Rows.tickStraightsRow.holds Try.pinned (OpenSpec.ofChange Rows.tickStraightsSpec) :=
  OpenClaim.holds_of_wide 13 Try.f13 rfl rfl rfl rfl rfl rfl rfl ⟨rfl, rfl, rfl, rfl, rfl⟩ rfl rfl rfl rfl rfl (by kernel_rfl) Try.func13 (by kernel_rfl)
    (of_decide_eq_true (by kernel_rfl)) (by unfold Func.isWrapper; first | (rw [if_pos (by decide +kernel)]; kernel_rfl) | (rw [if_neg (by decide +kernel)]; exact ⟨rfl, rfl⟩))
    (fun os started H enc _ => lifted os started H enc)

/-- The statement. -/
theorem proved : Rows.TickStraightsSaid := over
end Go.Proofs.Ytdlbgelidcfmiaa.tickStraights
