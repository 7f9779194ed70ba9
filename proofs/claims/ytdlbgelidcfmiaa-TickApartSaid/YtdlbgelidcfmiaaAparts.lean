/- Proved: TickApart returns true at every two clocks and all ends, and its arguments read afterwards as before. Conditions: none. -/
import Derived.Test.YtdlbgelidcfmiaaW34
import Derived.ProofKit
import Derived.OpenShut
import Derived.ShutString
import Derived.ChangeOld
import Derived.Below
namespace Go.Proofs.Ytdlbgelidcfmiaa.tickApart
open Go.ChangeShapes Go.WideShapes Go.ChangeAt Go.RowKit Go.Firn

theorem own : ownKnob Try.prog.godebug = none := by kernel_rfl
theorem laidOut : laidOutB Try.prog = true := by kernel_rfl

set_option maxRecDepth 100000 in
set_option maxHeartbeats 2000000 in
theorem walk_ok (a a' : Option Addr) (n c n' c' : Nat) (L T L' T' : Nat → Int) (F G : Int) (w : World) (hn : n ≤ 9223372036854775807) (hn' : n' ≤ 9223372036854775807) (hr : RdM w a n L T) (hr' : RdM w a' n' L' T') (hs : ¬ 100 < n) (hs' : ¬ 100 < n')
    (hd : decide (0 ≤ F) = false ∨ (decide (0 ≤ F) = true ∧ decide (G ≤ 100000) = false) ∨ (decide (0 ≤ F) = true ∧ decide (G ≤ 100000) = true ∧ decide (2000 < wrap64 (G - F)) = false)) :
    Calls Try.prog 11 #[.slice a n c, .slice a' n' c', .int .i64 F, .int .i64 G] w (RetB true w) := by
  obtain ⟨x, p, q, er, h1, h2⟩ := apart_both a a' n c n' c' L T L' T' F G hn hn'
  obtain ⟨b, er2, h3, h4⟩ := same_both a a' n c n' c' L T L' T' hn hn'
  have A1 := Lib.hid h1
  have A2 := Lib.hid h2
  have A3 := Lib.hid h3
  have A4 := Lib.hid h4
  have HR := Lib.hid hr
  have HR' := Lib.hid hr'
  clear h1 h2 h3 h4 hr hr'
  rcases hd with d1 | ⟨d1, d2⟩ | ⟨d1, d2, d3⟩
  all_goals
    go_enter Try.func11, Try.ntmps11
    go_wp2_with (first
      | (go_at_call 30; refine (Long_any a n c _ hn).mono ?_; rintro e w1 ⟨rfl, rfl⟩)
      | (go_at_call 30; refine (Long_any a' n' c' _ hn').mono ?_; rintro e w1 ⟨rfl, rfl⟩))
    refine (A1.out _ HR.out HR'.out).mono ?_
    rintro e w2 ⟨rfl, g⟩
    have X1 : Box2 (w2.alloc (.cells #[.int .i64 p, .int .i64 q] 37)) w2.heap.size p q := Box2.new rfl
    replace g := g.alloc (.cells #[.int .i64 p, .int .i64 q] 37)
    go_wp2_with fail
    refine (A2.out _ (HR.out.gr g) (HR'.out.gr g)).mono ?_
    rintro e w3 ⟨rfl, g2⟩
    have X2 : Box2 (w3.alloc (.cells #[.int .i64 p, .int .i64 q] 37)) w3.heap.size p q := Box2.new rfl
    replace g2 := g2.alloc (.cells #[.int .i64 p, .int .i64 q] 37)
    replace g := g.trans g2
    replace X1 := X1.gr g2
    clear g2
    obtain ⟨s0, s1, -, -⟩ := X1
    obtain ⟨s2, s3, -, -⟩ := X2
    go_wp2_with fail
    clear s0 s1 s2 s3
    refine (A3.out _ (HR.out.gr g) (HR'.out.gr g)).mono ?_
    rintro e w4 ⟨rfl, g2⟩
    replace g := g.trans g2
    clear g2
    go_wp2_with fail
    refine (A4.out _ (HR.out.gr g) (HR'.out.gr g)).mono ?_
    rintro e w5 ⟨rfl, g2⟩
    replace g := g.trans g2
    clear g2
    go_wp2_with (go_at_call 17; refine (Awake_any _).mono ?_; rintro e w9 ⟨rfl, g2⟩)
    go_ret
    exact ⟨rfl, g.trans g2⟩

set_option maxRecDepth 100000 in
theorem walk_far (a a' : Option Addr) (n c n' c' : Nat) (F G : Int) (w : World) (hn : n ≤ 9223372036854775807) (hn' : n' ≤ 9223372036854775807)
    (hd : 100 < n ∨ (¬ 100 < n ∧ 100 < n') ∨ (¬ 100 < n ∧ ¬ 100 < n' ∧ decide (0 ≤ F) = true ∧ decide (G ≤ 100000) = true ∧ decide (2000 < wrap64 (G - F)) = true)) :
    Calls Try.prog 11 #[.slice a n c, .slice a' n' c', .int .i64 F, .int .i64 G] w (RetB true w) := by
  rcases hd with h1 | ⟨h1, h2⟩ | ⟨h1, h2, d1, d2, d3⟩
  all_goals
    go_enter Try.func11, Try.ntmps11
    go_wp2_with (first
      | (go_at_call 30; refine (Long_any a n c _ hn).mono ?_; rintro e w1 ⟨rfl, rfl⟩)
      | (go_at_call 30; refine (Long_any a' n' c' _ hn').mono ?_; rintro e w1 ⟨rfl, rfl⟩)
      | (go_at_call 17; refine (Awake_any _).mono ?_; rintro e w9 ⟨rfl, g2⟩))
    go_ret
    exact ⟨rfl, g2⟩

theorem walk (a : Option Addr) (n c : Nat) (L T : Nat → Int) (a' : Option Addr) (n' c' : Nat) (L' T' : Nat → Int) (F G : Int) (w : World) (hn : n ≤ 9223372036854775807) (_wf : ∀ i, i < n → (Lit.int .i64 (L i)).wf = true ∧ (Lit.int .i64 (T i)).wf = true) (hr : RdM w a n L T)
    (hn' : n' ≤ 9223372036854775807) (_wf' : ∀ i, i < n' → (Lit.int .i64 (L' i)).wf = true ∧ (Lit.int .i64 (T' i)).wf = true) (hr' : RdM w a' n' L' T') (_w1 : (Lit.int .i64 F).wf = true) (_w2 : (Lit.int .i64 G).wf = true) :
    Calls Try.prog 11 #[.slice a n c, .slice a' n' c', .int .i64 F, .int .i64 G] w (RetB true w) := by
  by_cases hs : 100 < n
  · exact walk_far a a' n c n' c' F G w hn hn' (.inl hs)
  by_cases hs' : 100 < n'
  · exact walk_far a a' n c n' c' F G w hn hn' (.inr (.inl ⟨hs, hs'⟩))
  cases d1 : decide (0 ≤ F) with
  | false => exact walk_ok a a' n c n' c' L T L' T' F G w hn hn' hr hr' hs hs' (.inl d1)
  | true =>
    cases d2 : decide (G ≤ 100000) with
    | false => exact walk_ok a a' n c n' c' L T L' T' F G w hn hn' hr hr' hs hs' (.inr (.inl ⟨d1, d2⟩))
    | true =>
      cases d3 : decide (2000 < wrap64 (G - F)) with
      | false => exact walk_ok a a' n c n' c' L T L' T' F G w hn hn' hr hr' hs hs' (.inr (.inr ⟨d1, d2, d3⟩))
      | true => exact walk_far a a' n c n' c' F G w hn hn' (.inr (.inr ⟨hs, hs', d1, d2, d3⟩))

set_option maxRecDepth 100000 in
theorem lifted (os : Os) (started : os.Started) (H : Type) (enc : TypeId × Value → H) :
    ReturnsInHanded {} Try.checked os 11 .any (Rows.tickApartSpec.pre6 enc Try.prog Try.f11 Rows.tickApartRow.domain false) (Rows.tickApartSpec.post enc Try.prog Try.f11 false true false false) := by
  refine returnsInHanded_of_change (C := Try.checked) own started (by kernel_rfl) Try.func11
    (ChangeSpec.witness6 (enc := enc) (C := Try.checked) false ⟨#[], #[.slice none 0 0, .slice none 0 0, .int .i64 0, .int .i64 0], []⟩ 8 (by kernel_rfl) (by kernel_rfl) (by kernel_rfl) (by kernel_rfl)) ?_
  intro W base args ds gs before hval0 hW hcnd _
  have hval : ∀ (j : Nat) t v, Try.f11.params[j]? = some t → args[j]? = some v → Value.okWide Try.prog W .any base t v := hval0
  have hW' := hW
  obtain ⟨p, q, hA0, hV, rfl, hfz, hnd⟩ := hW
  have hA : DataW.TrodAll enc Try.prog W 0 (fun _ => true) true Try.f11.params.toList args.toList ds p := hA0
  rw [Try.params11] at hA hval
  obtain ⟨v0, vs0, d0, ds0, p0, q0, hargs, rfl, rfl, h0, r0⟩ := trodAll_cons hA
  obtain ⟨v1, vs1, d1, ds1, p1, q1, rfl, rfl, rfl, h1, r1⟩ := trodAll_cons r0
  obtain ⟨v2, vs2, d2, ds2, p2, q2, rfl, rfl, rfl, h2, r2⟩ := trodAll_cons r1
  obtain ⟨v3, vs3, d3, ds3, p3, q3, rfl, rfl, rfl, h3, r3⟩ := trodAll_cons r2
  obtain ⟨rfl, rfl, rfl⟩ := trodAll_nil r3
  obtain rfl : args = #[v0, v1, v2, v3] := by cases args; simp_all
  obtain ⟨rfl, rfl⟩ := trodVars_none hV
  obtain ⟨a0, len0, cap0, rfl⟩ := okWide_slice Try.underlying35 (hval 0 35 v0 rfl rfl)
  have k0 := h0
  have lt0 : ∀ x ∈ p0, x.block < W.heap.size := by obtain ⟨m, hm⟩ := k0; exact DataW.trod_lt m _ _ _ hm
  obtain ⟨x0, y0, wn0, wf0, wr0⟩ : ∃ f g : Nat → Int, len0 ≤ 9223372036854775807 ∧ (∀ i, i < len0 → (Lit.int .i64 (f i)).wf = true ∧ (Lit.int .i64 (g i)).wf = true) ∧ RdM W a0 len0 f g := by
    obtain ⟨fuel, hf⟩ := h0
    exact RdM.of_trod Try.underlying35 Try.underlying64 (by kernel_rfl) ⟨rfl, rfl⟩ ⟨rfl, rfl⟩ (by kernel_rfl) Try.underlying3 hf
  obtain ⟨a1, len1, cap1, rfl⟩ := okWide_slice Try.underlying35 (hval 1 35 v1 rfl rfl)
  have k1 := h1
  have lt1 : ∀ x ∈ p1, x.block < W.heap.size := by obtain ⟨m, hm⟩ := k1; exact DataW.trod_lt m _ _ _ hm
  obtain ⟨x1, y1, wn1, wf1, wr1⟩ : ∃ f g : Nat → Int, len1 ≤ 9223372036854775807 ∧ (∀ i, i < len1 → (Lit.int .i64 (f i)).wf = true ∧ (Lit.int .i64 (g i)).wf = true) ∧ RdM W a1 len1 f g := by
    obtain ⟨fuel, hf⟩ := h1
    exact RdM.of_trod Try.underlying35 Try.underlying64 (by kernel_rfl) ⟨rfl, rfl⟩ ⟨rfl, rfl⟩ (by kernel_rfl) Try.underlying3 hf
  obtain ⟨a2, rfl, rfl, rfl, w2⟩ := open_int Try.underlying3 (hval 2 3 v2 rfl rfl) h2
  obtain ⟨a3, rfl, rfl, rfl, w3⟩ := open_int Try.underlying3 (hval 3 3 v3 rfl rfl) h3
  clear hA0 hval0
  refine (walk a0 len0 cap0 x0 y0 a1 len1 cap1 x1 y1 a2 a3 W wn0 wf0 wr0 wn1 wf1 wr1 w2 w3).mono fun e W' ⟨he, bel⟩ => ?_
  subst he
  exact ⟨_, rfl, _, _, _, [], _, [], hW', trodAll_mk1 (shut_bool Try.underlying4 _), (trodAll_cons_mk (Below.trod laidOut (by kernel_rfl) (of_decide_eq_true (by kernel_rfl)) k0 bel lt0) (trodAll_cons_mk (Below.trod laidOut (by kernel_rfl) (of_decide_eq_true (by kernel_rfl)) k1 bel lt1) (trodAll_cons_mk (shut_int Try.underlying3 w2) (trodAll_cons_mk (shut_int Try.underlying3 w3) trodAll_mk0)))), rfl, bel.frame _, fun h => by cases h⟩

theorem over : Rows.tickApartRow.holds Try.pinned (OpenSpec.ofChange Rows.tickApartSpec) :=
  OpenClaim.holds_of_wide 11 Try.f11 rfl rfl rfl rfl rfl rfl rfl ⟨rfl, rfl, rfl, rfl, rfl⟩ rfl rfl rfl rfl rfl (by kernel_rfl) Try.func11 (by kernel_rfl)
    (of_decide_eq_true (by kernel_rfl)) (by unfold Func.isWrapper; first | (rw [if_pos (by decide +kernel)]; kernel_rfl) | (rw [if_neg (by decide +kernel)]; exact ⟨rfl, rfl⟩))
    (fun os started H enc _ => lifted os started H enc)

/-- The statement. -/
theorem proved : Rows.TickApartSaid := over
end Go.Proofs.Ytdlbgelidcfmiaa.tickApart
